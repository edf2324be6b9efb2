/-
  Texts of the claim AsmWholeSays (RdC RdK): what each proves stands at its theorems.
  Conditions: as the theorems say.
-/
import Derived.IntWalk
import Derived.RegionTactic
import Derived.BigRegion
import Derived.Deep.DeepCutAuto
import Derived.Deep.CutBlock
import Derived.Deep.QuietTactic
import Derived.BigQuiet
import Derived.Laws.StructEq
import Derived.Test.YtdldochhondifaaGreatDoorVKtC
import Derived.Test.YtdldochhondifaaGreatDoorVKitD
import Derived.Test.YtdldochhondifaaGreatDoorVRdP
import Derived.Test.YtdldochhondifaaGreatDoorVLen
namespace Go.Proofs.YtdldochhondifaaGreatDoor
open Go.RowKit

theorem BAt.set {w : World} {B : Nat} {v : Value} {xs : List Int} (h : BAt w B v xs) {p : Addr} (hp : B ≤ p.block) (u : Value) : BAt (w.setCell p u) B v xs :=
  h.below ((Below.refl B w).setCell hp u) (Nat.le_refl _)
/-- The Reader in block g: what is left, whether something was bad; the bytes lie below block B. -/
def RdAt (w : World) (g B : Nat) (bs : List Int) (bad : Bool) : Prop := ∃ v, Blk w g 142 #[v, .bool bad] ∧ BAt w B v bs
theorem RdAt.below {w w' : World} {g B B' : Nat} {bs : List Int} {bad : Bool} (h : RdAt w g B bs bad) (hb : Below B' w w') (hg : g < B') (hB : B ≤ g) : RdAt w' g B bs bad := by
  obtain ⟨v, h1, h2⟩ := h
  exact ⟨v, h1.below hb hg, h2.below hb (by omega)⟩
theorem RdAt.alloc {w : World} {g B : Nat} {bs : List Int} {bad : Bool} (h : RdAt w g B bs bad) (hB : B ≤ g) (o : Obj) : RdAt (w.alloc o) g B bs bad := by
  have hlt : g < w.heap.size := by obtain ⟨v, h1, _⟩ := h; exact h1.lt
  exact h.below ((Below.refl w.heap.size w).alloc (Nat.le_refl _) o) hlt hB
theorem RdAt.far {w : World} {g B : Nat} {bs : List Int} {bad : Bool} (h : RdAt w g B bs bad) (hB : B ≤ g) {p : Addr} (hp : g < p.block) (u : Value) : RdAt (w.setCell p u) g B bs bad := by
  obtain ⟨v, h1, h2⟩ := h
  exact ⟨v, h1.far (by omega) u, h2.set (by omega) u⟩
theorem only_set {w : World} {g o : Nat} (u : Value) : w.grownBy (w.setCell ⟨g, o, none⟩ u) (some g) :=
  ⟨rfl, rfl, rfl, by simp [World.setCell], fun i _ hne => Below.heap_setCell w _ u i (by intro h; exact hne (by rw [h]))⟩
theorem only_trans {a b c : World} {row : Option Nat} (h : a.grownBy b row) (k : b.grownBy c row) : a.grownBy c row :=
  ⟨k.os.trans h.os, k.tape.trans h.tape, k.output.trans h.output, Nat.le_trans h.size k.size, fun i hi hne => (k.block i (Nat.lt_of_lt_of_le hi h.size) hne).trans (h.block i hi hne)⟩
theorem only_blk {w w' : World} {g g' : Nat} {t : TypeId} {cs : Array Value} (h : w.grownBy w' (some g)) (hb : Blk w g' t cs) (hne : g' ≠ g) : Blk w' g' t cs :=
  (h.block g' hb.lt (by intro e; cases e; exact hne rfl)).trans hb
theorem only_below {w w' : World} {g : Nat} (h : w.grownBy w' (some g)) (hg : g ≤ w.heap.size) : Below g w w' :=
  ⟨h.os, h.tape, h.output, h.size, fun i hi => h.block i (by omega) (by intro e; cases e; omega)⟩
theorem BAt.tail {w : World} {B b off c : Nat} {x : Int} {l : List Int} (hc : l.length + 1 ≤ c) (h63 : c ≤ 9223372036854775807) (hb : b < B) (hcell : ∀ (k : Nat) (y : Int), (x :: l)[k]? = some y → w.cell? ⟨b, off + k, none⟩ = some (.int .u8 y)) :
    BAt w B (.slice (some ⟨b, off + 1, none⟩) l.length (c - 1)) l := by
  refine ⟨_, c - 1, rfl, by omega, by omega, fun hl => ?_⟩
  refine ⟨b, off + 1, rfl, hb, fun k y hk => ?_⟩
  have := hcell (k + 1) y (by simpa using hk)
  rw [← this]
  congr 2
  omega
theorem BAt.tail1 {w : World} {B b off : Nat} {l : List Int} (hc : l.length + 1 ≤ 1) : BAt w B (.slice (some ⟨b, off, none⟩) l.length 0) l :=
  ⟨_, 0, rfl, by omega, by omega, fun hl => by omega⟩
set_option maxHeartbeats 1000000 in
theorem Byte_any (g B : Nat) (bs : List Int) (bad : Bool) (w : World) (h : RdAt w g B bs bad) (hB : B ≤ g) (hbs : BytesOk bs) :
    Calls Tryz.prog 128 #[.pointer (some ⟨g, 0, none⟩)] w fun e w' => e = .returned (.int .i64 (bs.headD 0)) ∧ RdAt w' g B bs.tail (bad || bs.isEmpty) ∧ w.grownBy w' (some g) := by
  obtain ⟨v, hblk, A, c, rfl, hlc, h63, hcell⟩ := h
  have r0 := hblk.cell 0
  have r1 := hblk.cell 1
  have f0 := hblk.frozen 0
  have f1 := hblk.frozen 1
  have HK := Lib.hid hblk
  have HC := Lib.hid hcell
  clear hcell hblk
  cases bs with
  | nil =>
    go_enter Tryz.func128, Tryz.ntmps128
    go_wp2_with fail
    go_ret
    refine ⟨rfl, ⟨_, by simpa using HK.out.set_ 1 (.bool true), ?_⟩, only_set _⟩
    exact ⟨A, c, rfl, by simp, h63, fun h => by simp at h⟩
  | cons x l =>
    obtain ⟨b, off, rfl, hbB, hcl⟩ := HC.out (by simp)
    have hx := hbs x (by simp)
    have cx : w.cell? ⟨b, off, none⟩ = some (.int .u8 x) := hcl 0 x rfl
    have Hcl := Lib.hid hcl
    simp only [List.length_cons] at hlc
    have hw : IntKind.i64.wrap x = x := by rw [IntKind.wrap_i64]; omega
    clear hcl
    go_enter Tryz.func128, Tryz.ntmps128
    go_wp2_with fail
    · go_ret
      refine ⟨rfl, ⟨_, by simpa using HK.out.set_ 0 _, ?_⟩, only_set _⟩
      exact (BAt.tail1 (by omega)).set (p := ⟨g, 0, none⟩) hB _
    · go_ret
      refine ⟨rfl, ⟨_, by simpa using HK.out.set_ 0 _, ?_⟩, only_set _⟩
      exact (BAt.tail hlc h63 hbB Hcl.out).set (p := ⟨g, 0, none⟩) hB _
end Go.Proofs.YtdldochhondifaaGreatDoor
namespace Go.Proofs.YtdldochhondifaaGreatDoor
open Go.RowKit

theorem xor_i64_ones (x : Nat) (h : x < 9223372036854775808) : bits .xor .i64 (x : Int) (-1) = -(x : Int) - 1 := by
  show IntKind.i64.wrap ((BitVec.ofInt 64 (x : Int) ^^^ BitVec.ofInt 64 (-1)).toNat : Int) = _
  rw [BitVec.toNat_xor, ofInt_u64 x (by omega), show (BitVec.ofInt 64 (-1)).toNat = 18446744073709551615 from by decide, xor_ones x (by omega), IntKind.wrap_i64]
  omega
theorem xor_i64_zero (x : Nat) (h : x < 9223372036854775808) : bits .xor .i64 (x : Int) 0 = (x : Int) := by
  show IntKind.i64.wrap ((BitVec.ofInt 64 (x : Int) ^^^ BitVec.ofInt 64 0).toNat : Int) = _
  rw [BitVec.toNat_xor, ofInt_u64 x (by omega), show (BitVec.ofInt 64 0).toNat = 0 from by decide, Nat.xor_zero, IntKind.wrap_i64]
  omega
theorem unfold_bits (n : Nat) (h : n < 18446744073709551616) : bits .xor .i64 ((n : Int) / 2) (wrap64 (-wrap64 (bits .and .u64 (n : Int) 1))) = unfoldS n := by
  rw [show (1 : Int) = ((1 : Nat) : Int) from rfl, u64_and_nat n 1 h (by omega), Nat.and_one_is_mod, show (n : Int) / 2 = ((n / 2 : Nat) : Int) by omega]
  unfold unfoldS
  rcases (by omega : n % 2 = 0 ∨ n % 2 = 1) with h0 | h1
  · rw [h0, if_neg (by omega), show wrap64 (-wrap64 ((0 : Nat) : Int)) = 0 by unfold wrap64; omega, xor_i64_zero _ (by omega)]
  · rw [h1, if_pos rfl, show wrap64 (-wrap64 ((1 : Nat) : Int)) = -1 by unfold wrap64; omega, xor_i64_ones _ (by omega)]
set_option maxRecDepth 100000 in
set_option maxHeartbeats 1000000 in
theorem Unfold_any (n : Nat) (w : World) (h : n < 18446744073709551616) : Calls Tryz.prog 130 #[.int .u64 n] w fun e w' => e = .returned (.int .i64 (unfoldS n)) ∧ w = w' := by
  have H := Lib.hid (unfold_bits n h)
  go_enter Tryz.func130, Tryz.ntmps130
  go_wp2_with fail
  go_ret
  exact ⟨ret_int H.out, rfl⟩
end Go.Proofs.YtdldochhondifaaGreatDoor
namespace Go.Proofs.YtdldochhondifaaGreatDoor
open Go.RowKit

/-- What Number comes to: the number and what is left, or the flag. -/
def NumEnd (bs : List Int) (bad : Bool) (k : Nat) (rest : List Int) (bad' : Bool) : Prop :=
  match rnS 0 bs with
  | some (n, l) => k = n ∧ rest = l ∧ bad' = bad
  | none => bad' = true
def NumPost (w : World) (g B : Nat) (bs : List Int) (bad : Bool) (e : Ending) (w' : World) : Prop :=
  ∃ (k : Nat) (rest : List Int) (bad' : Bool), e = .returned (.int .u64 k) ∧ k < 18446744073709551616 ∧ RdAt w' g B rest bad' ∧ NumEnd bs bad k rest bad' ∧ w.grownBy w' (some g)
/-- The loop's head: the digits below i are gathered in acc. -/
def NumNow (bs : List Int) (i acc : Nat) (left : List Int) : Prop := rnS 0 bs = (rnS i left).map fun p => (acc + p.1, p.2)
theorem NumEnd.bad {bs : List Int} {bad : Bool} {k : Nat} {rest : List Int} (h : rnS 0 bs = none) : NumEnd bs bad k rest true := by unfold NumEnd; rw [h]
theorem NumEnd.ok {bs : List Int} {bad : Bool} {k : Nat} {rest : List Int} (h : rnS 0 bs = some (k, rest)) : NumEnd bs bad k rest bad := by unfold NumEnd; rw [h]; exact ⟨rfl, rfl, rfl⟩
theorem NumNow.start (bs : List Int) : NumNow bs 0 0 bs := by
  unfold NumNow
  cases rnS 0 bs with
  | none => rfl
  | some p => simp
theorem NumNow.nil {bs : List Int} {i acc : Nat} (h : NumNow bs i acc []) : rnS 0 bs = none := h
theorem NumNow.far {bs left : List Int} {acc : Nat} (h : NumNow bs 10 acc left) : rnS 0 bs = none := by
  unfold NumNow at h
  rw [h]
  cases left with
  | nil => rfl
  | cons d l => unfold rnS; rw [if_pos (.inl (by omega))]; rfl
theorem NumNow.zero {bs l : List Int} {i acc : Nat} (h : NumNow bs i acc (0 :: l)) (hi : 0 < i) : rnS 0 bs = none := by
  unfold NumNow at h
  rw [h]
  unfold rnS
  rw [if_pos (.inr (.inr ⟨rfl, hi⟩))]
  rfl
theorem NumNow.big {bs l : List Int} {d : Int} {acc : Nat} (h : NumNow bs 9 acc (d :: l)) (hd : 1 < d) : rnS 0 bs = none := by
  unfold NumNow at h
  rw [h]
  unfold rnS
  rw [if_pos (.inr (.inl ⟨rfl, hd⟩))]
  rfl
theorem NumNow.last {bs l : List Int} {d : Int} {i acc : Nat} (h : NumNow bs i acc (d :: l)) (hi : i ≤ 9) (h0 : ¬ (d = 0 ∧ 0 < i)) (h9 : ¬ (i = 9 ∧ 1 < d)) (hd : d < 128) : rnS 0 bs = some (acc + d.toNat * 128 ^ i, l) := by
  unfold NumNow at h
  rw [h]
  unfold rnS
  rw [if_neg (by omega), if_pos hd]
  rfl
theorem NumNow.more {bs l : List Int} {d : Int} {i acc : Nat} (h : NumNow bs i acc (d :: l)) (hi : i ≤ 8) (hd : 128 ≤ d) : NumNow bs (i + 1) (acc + (d - 128).toNat * 128 ^ i) l := by
  unfold NumNow at h ⊢
  rw [h]
  conv => lhs; unfold rnS
  rw [if_neg (by omega), if_neg (by omega)]
  cases rnS (i + 1) l with
  | none => rfl
  | some p => simp [Nat.add_assoc]
theorem NumNow.over {bs l l' : List Int} {d : Int} {acc acc' : Nat} (h : NumNow bs 9 acc (d :: l)) (hd : 128 ≤ d) : NumNow bs 10 acc' l' := by
  have h1 := h.big (by omega)
  unfold NumNow
  rw [h1]
  cases l' with
  | nil => rfl
  | cons x y => unfold rnS; rw [if_pos (.inl (by omega))]; rfl
/-- The next digit fits. -/
theorem digit_fits {acc d i : Nat} (ha : acc < 128 ^ i) (hd : d < 128) (hi : i ≤ 9) (h9 : i = 9 → d ≤ 1) : d * 128 ^ i < 18446744073709551616 ∧ acc + d * 128 ^ i < 18446744073709551616 ∧ acc + d * 128 ^ i < 128 ^ (i + 1) := by
  have h3 : acc + d * 128 ^ i < 128 ^ (i + 1) := by
    rw [Nat.pow_succ, Nat.mul_comm (128 ^ i) 128]
    have : (d + 1) * 128 ^ i ≤ 128 * 128 ^ i := Nat.mul_le_mul_right _ (by omega)
    rw [Nat.add_mul] at this
    omega
  rcases Nat.lt_or_ge i 9 with h | h
  · have h1 : 128 ^ (i + 1) ≤ 128 ^ 9 := Nat.pow_le_pow_right (by decide) (by omega)
    rw [pow128] at h1
    omega
  · obtain rfl : i = 9 := by omega
    rw [pow128] at ha h3 ⊢
    have := h9 rfl
    omega
theorem pow7 (i : Nat) : (2 : Int) ^ (7 * i) = ((128 ^ i : Nat) : Int) := by
  rw [Int.natCast_pow, show ((128 : Nat) : Int) = 2 ^ 7 from rfl, ← Int.pow_mul]
def numRel (bs : List Int) (bad : Bool) (w : World) (g B : Nat) (n s : Value) (wr : World) : Prop :=
  ∃ (i acc : Nat) (z : Int) (left : List Int), n = .int .u64 acc ∧ s = .int .i64 z ∧ z = 7 * (i : Int) ∧ i ≤ 10 ∧ Hid (acc < 128 ^ i) ∧ acc < 18446744073709551616 ∧ Hid (NumNow bs i acc left) ∧ Hid (RdAt wr g B left bad) ∧ Hid (BytesOk left) ∧ Hid (w.grownBy wr (some g))

set_option maxRecDepth 100000 in
set_option maxHeartbeats 2000000 in
theorem Number_reads (g B : Nat) (bs : List Int) (bad : Bool) (w : World) (h : RdAt w g B bs bad) (hB : B ≤ g) (hbs : BytesOk bs) :
    Calls Tryz.prog 131 #[.pointer (some ⟨g, 0, none⟩)] w (NumPost w g B bs bad) := by
  have HR := Lib.hid h
  have HBs := Lib.hid hbs
  clear h hbs
  go_enter Tryz.func131, Tryz.ntmps131
  go_wp2_with fail
  go_loopw [3, 4] (numRel bs bad w g B) (fun _ s _ => (70 - intOf s).toNat)
  case atStart => exact ⟨0, 0, 0, bs, rfl, rfl, by omega, by omega, Lib.hid (by omega), by omega, Lib.hid (NumNow.start bs), HR, HBs, Lib.hid (World.grownBy.refl _ _)⟩
  case round =>
    obtain ⟨i, acc, z, left, rfl, rfl, hz, hi, HA, ha, HN, HRd, HBy, HG⟩ := hrel
    have Hz := Lib.hid hz
    have hz0 : 0 ≤ z := by omega
    have hz1 : z ≤ 70 := by omega
    clear hz
    by_cases h10 : i = 10
    · have hz2 : 70 ≤ z := by have := Hz.out; omega
      have Hi := Lib.hid h10
      clear h10
      obtain ⟨v, hblk, hv⟩ := HRd.out
      have f1 := hblk.frozen 1
      have r1 := hblk.cell 1
      have HK := Lib.hid hblk
      have HV := Lib.hid hv
      clear hblk hv
      go_wp2_with fail
      go_ret
      refine ⟨0, left, true, rfl, by omega, ⟨v, HK.out.set_ 1 _, HV.out.set hB _⟩, NumEnd.bad (NumNow.far (Hi.out ▸ HN.out)), only_trans HG.out (only_set _)⟩
    · have hz2 : z < 70 := by have := Hz.out; omega
      have hi9 : i ≤ 9 := by omega
      clear h10
      cases left with
      | nil =>
        have HNo := Lib.hid HN.out.nil
        go_wp2_with fail
        refine (Byte_any g B [] bad _ HRd.out hB HBy.out).mono ?_
        rintro e w1 ⟨rfl, hr1, hg1⟩
        have HR1 := Lib.hid hr1
        have HG1 := Lib.hid (only_trans HG.out hg1)
        clear hr1 hg1
        simp only [List.headD_nil]
        obtain ⟨v, hblk, hv⟩ := HR1.out
        have f1 := hblk.frozen 1
        have r1 := hblk.cell 1
        have HK := Lib.hid hblk
        have HV := Lib.hid hv
        clear hblk hv
        by_cases hi0 : i = 0
        · obtain rfl : z = 0 := by have := Hz.out; omega
          have ha0 : acc = 0 := by have := HA.out; rw [hi0] at this; omega
          subst ha0
          clear hi0
          have e127 : bits BinOp.and IntKind.i64 0 127 = 0 := by decide
          have hb8 : bitsS 0 ≤ 7 := bitsS_le _
          go_wp2_with fail
          refine (Len_any _ _ (by omega) (by omega)).mono ?_
          rintro e w' ⟨rfl, rfl⟩
          go_wp2_with fail
          go_ret
          refine ⟨0, _, _, ret_int ?_, by omega, ⟨v, HK.out, HV.out⟩, ?_, HG1.out⟩
          · decide
          · simp only [List.isEmpty_nil, Bool.or_true]
            exact NumEnd.bad HNo.out
        · have hz3 : 0 < z := by have := Hz.out; omega
          go_wp2_with fail
          go_ret
          refine ⟨0, _, true, rfl, by omega, ⟨v, HK.out.set_ 1 _, HV.out.set hB _⟩, NumEnd.bad HNo.out, only_trans HG1.out (only_set _)⟩
      | cons d l =>
        have hd := HBy.out d (by simp)
        go_wp2_with fail
        refine (Byte_any g B (d :: l) bad _ HRd.out hB HBy.out).mono ?_
        rintro e w1 ⟨rfl, hr1, hg1⟩
        have HR1 := Lib.hid hr1
        have HG1 := Lib.hid (only_trans HG.out hg1)
        clear hr1 hg1
        simp only [List.headD_cons]
        obtain ⟨v, hblk, hv⟩ := HR1.out
        have f1 := hblk.frozen 1
        have r1 := hblk.cell 1
        have HK := Lib.hid hblk
        have HV := Lib.hid hv
        clear hblk hv
        have e127 := and127 d hd
        have hm0 : 0 ≤ d % 128 := by omega
        have hm1 : d % 128 < 128 := by omega
        by_cases hzero : 0 < z ∧ d = 0
        · obtain ⟨hzp, rfl⟩ := hzero
          have HNo := Lib.hid (HN.out.zero (by have := Hz.out; omega))
          go_wp2_with fail
          go_ret
          refine ⟨0, _, true, rfl, by omega, ⟨v, HK.out.set_ 1 _, HV.out.set hB _⟩, NumEnd.bad HNo.out, only_trans HG1.out (only_set _)⟩
        · have Hze := Lib.hid hzero
          have hg0 : (0 < z → (d == 0) = false) := fun h => by simp; intro h'; exact hzero ⟨h, h'⟩
          clear hzero
          have hb7 := bitsS_le (d % 128).toNat
          have hb1 := bitsS_one (d % 128).toNat
          by_cases hbig : i = 9 ∧ 1 < d % 128
          · obtain ⟨hi', hd1⟩ := hbig
            have HNo := Lib.hid ((hi' ▸ HN.out : NumNow bs 9 acc (d :: l)).big (by omega))
            obtain rfl : z = 63 := by have := Hz.out; omega
            have hb2 : 1 < bitsS (d % 128).toNat := hb1.2 (by omega)
            have hg := hg0 (by omega)
            clear hb1 hi'
            go_wp2_with fail
            refine (Len_any _ _ (by omega) (by omega)).mono ?_
            rintro e w' ⟨rfl, rfl⟩
            go_wp2_with fail
            go_ret
            refine ⟨0, _, true, rfl, by omega, ⟨v, HK.out.set_ 1 _, HV.out.set hB _⟩, NumEnd.bad HNo.out, only_trans HG1.out (only_set _)⟩
          · have hfit := digit_fits HA.out (show (d % 128).toNat < 128 by omega) hi9 (fun h => by omega)
            have hb2 : z + bitsS (d % 128).toNat ≤ 64 := by
              have := Hz.out
              by_cases h9 : i = 9
              · have : ¬ 1 < bitsS (d % 128).toNat := fun h => hbig ⟨h9, by have := hb1.1 h; omega⟩
                omega
              · omega
            have hor := or_digit acc (d % 128).toNat i HA.out hfit.2.1
            have hsh : IntKind.u64.wrap (d % 128 * 2 ^ z.toNat) = (((d % 128).toNat * 128 ^ i : Nat) : Int) := by
              have e1 : z.toNat = 7 * i := by have := Hz.out; omega
              rw [e1, pow7, IntKind.wrap_u64, Int.natCast_mul, show ((d % 128).toNat : Int) = d % 128 by omega]
              have e2 := hfit.1
              have : ((d % 128).toNat * 128 ^ i : Nat) < (18446744073709551616 : Int) := by omega
              rw [Int.natCast_mul, show ((d % 128).toNat : Int) = d % 128 by omega] at this
              exact Int.emod_eq_of_lt (Int.mul_nonneg hm0 (by omega)) this
            have HF := Lib.hid hfit
            have HSh := Lib.hid hsh
            have HOr := Lib.hid hor
            have HBig := Lib.hid hbig
            clear hfit hsh hor hb1 hbig hb7
            by_cases h128 : d < 128
            · have hE : NumEnd bs bad (acc + (d % 128).toNat * 128 ^ i) l (bad || (d :: l).isEmpty) := by
                rw [show (d % 128).toNat = d.toNat by omega, show (bad || (d :: l).isEmpty) = bad by simp]
                exact NumEnd.ok (HN.out.last hi9 (fun h => Hze.out ⟨by have := Hz.out; omega, h.1⟩) (fun h => HBig.out ⟨h.1, by omega⟩) h128)
              have HE := Lib.hid hE
              clear hE
              by_cases hzp : 0 < z
              all_goals
                first | (have hg := hg0 hzp; clear hg0) | clear hg0
                go_wp2_with fail
                refine (Len_any _ _ (by omega) (by omega)).mono ?_
                rintro e w' ⟨rfl, rfl⟩
                go_wp2_with fail
                go_ret
                exact ⟨_, _, _, ret_int (by rw [HSh.out, HOr.out]), HF.out.2.1, ⟨v, HK.out, HV.out⟩, HE.out, HG1.out⟩
            · by_cases hzp : 0 < z
              all_goals
                first | (have hg := hg0 hzp; clear hg0) | clear hg0
                go_wp2_with fail
                refine (Len_any _ _ (by omega) (by omega)).mono ?_
                rintro e w' ⟨rfl, rfl⟩
                go_wp2_with fail
                go_roundw
                case rel =>
                  refine ⟨i + 1, _, z + 7, l, by rw [HSh.out, HOr.out], by go_num, by have := Hz.out; omega, by omega, Lib.hid HF.out.2.2, HF.out.2.1, Lib.hid ?_, Lib.hid ⟨v, by simpa using HK.out, HV.out⟩, Lib.hid (fun x hx => HBy.out x (by simp [hx])), HG1⟩
                  by_cases h9 : i = 9
                  · subst h9
                    exact HN.out.over (by omega)
                  · rw [show (d % 128).toNat = (d - 128).toNat by omega]
                    exact HN.out.more (by omega) (by omega)
                case measure => simp [intOf]; omega
end Go.Proofs.YtdldochhondifaaGreatDoor
namespace Go.Proofs.YtdldochhondifaaGreatDoor
open Go.RowKit

theorem only_far {w w1 : World} {g : Nat} (h : w.grownBy w1 (some g)) {p : Addr} (hp : w.heap.size ≤ p.block) (u : Value) : w.grownBy (w1.setCell p u) (some g) :=
  ⟨h.os, h.tape, h.output, by simpa [World.setCell] using h.size, fun i hi hne => (Below.heap_setCell w1 p u i (by omega)).trans (h.block i hi hne)⟩
theorem only_own {w w1 : World} {g : Nat} (h : w.grownBy w1 (some g)) (o : Nat) (u : Value) : w.grownBy (w1.setCell ⟨g, o, none⟩ u) (some g) := only_trans h (only_set u)
theorem only_alloc {w w1 : World} {g : Nat} (h : w.grownBy w1 (some g)) (o : Obj) : w.grownBy (w1.alloc o) (some g) := only_trans h (World.grownBy_alloc w1 o _)
theorem only_after {w w1 w2 : World} {g B : Nat} (h : w.grownBy w1 (some g)) (hb : Below B w1 w2) (hB : w.heap.size ≤ B) : w.grownBy w2 (some g) :=
  ⟨hb.os.trans h.os, hb.tape.trans h.tape, hb.output.trans h.output, Nat.le_trans h.size hb.size, fun i hi hne => (hb.block i (by omega)).trans (h.block i hi hne)⟩
theorem only_drew {w w1 : World} {g : Nat} (h : w.grownBy w1 (some g)) : w.grownBy w1.drew (some g) := ⟨h.os, h.tape, h.output, h.size, h.block⟩
theorem blk_ne {w : World} {g g' : Nat} {t t' : TypeId} {cs cs' : Array Value} (h : Blk w g t cs) (h' : Blk w g' t' cs') (ht : t ≠ t') : g ≠ g' := by
  rintro rfl
  unfold Blk at h h'
  rw [h] at h'
  cases h'
  exact ht rfl
theorem Blk.drew {w : World} {g : Nat} {t : TypeId} {cs : Array Value} (h : Blk w g t cs) : Blk w.drew g t cs := h
theorem Tab.only {w w' : World} {g : Nat} (h : Tab w) (hg : w.grownBy w' (some g)) (hn : 1 < g) : Tab w' := by
  have hlt := h.1
  refine h.below (B := 1 + 1) ⟨hg.os, hg.tape, hg.output, hg.size, fun i hi => hg.block i (by omega) (by intro e; cases e; omega)⟩ (by omega) (by have := hg.size; omega)

/-- The registers read so far, of k in all. -/
def RegNow (k : Nat) (bs dn left : List Int) (bad : Bool) : Prop :=
  (bad = true ∧ rregS k bs = none) ∨ (bad = false ∧ rregS k bs = (rregS (k - dn.length) left).map fun p => (dn ++ p.1, p.2))
def RegEnd (k : Nat) (bs dn left : List Int) (bad : Bool) : Prop := (bad = true ∧ rregS k bs = none) ∨ (bad = false ∧ rregS k bs = some (dn, left))
theorem RegNow.start (k : Nat) (bs : List Int) : RegNow k bs [] bs false := by
  refine .inr ⟨rfl, ?_⟩
  rw [List.length_nil, Nat.sub_zero]
  cases rregS k bs with
  | none => rfl
  | some p => rfl
theorem RegNow.none_left {k : Nat} {bs dn left : List Int} {bad : Bool} (h : RegNow k bs dn left bad) (hk : k - dn.length = 0) : RegEnd k bs dn left bad := by
  rcases h with h | ⟨h, e⟩
  · exact .inl h
  · refine .inr ⟨h, ?_⟩
    rw [e, hk]
    simp [rregS]
theorem RegNow.one {k : Nat} {bs dn left : List Int} {bad : Bool} (h : RegNow k bs dn left bad) (hk : k - dn.length = 1) : RegEnd k bs (dn ++ [left.headD 0]) left.tail ((bad || left.isEmpty) || decide (15 < left.headD 0)) := by
  rcases h with ⟨rfl, e⟩ | ⟨rfl, e⟩
  · exact .inl ⟨by simp, e⟩
  · rw [hk] at e
    cases left with
    | nil => exact .inl ⟨by simp, e⟩
    | cons x l =>
      by_cases hx : 15 < x
      · refine .inl ⟨by simp [hx], ?_⟩
        rw [e]
        simp [rregS, hx]
      · refine .inr ⟨by simp; omega, ?_⟩
        rw [e]
        simp [rregS, hx]
theorem RegNow.two {k : Nat} {bs dn left : List Int} {bad : Bool} (h : RegNow k bs dn left bad) (hk : 2 ≤ k - dn.length) : RegNow k bs (dn ++ [left.headD 0 / 16, left.headD 0 % 16]) left.tail (bad || left.isEmpty) := by
  obtain ⟨j, hj⟩ : ∃ j, k - dn.length = j + 2 := ⟨k - dn.length - 2, by omega⟩
  have hj' : k - (dn ++ [left.headD 0 / 16, left.headD 0 % 16]).length = j := by simp; omega
  rcases h with ⟨rfl, e⟩ | ⟨rfl, e⟩
  · exact .inl ⟨by simp, e⟩
  · rw [hj] at e
    cases left with
    | nil => exact .inl ⟨by simp, e⟩
    | cons x l =>
      refine .inr ⟨by simp, ?_⟩
      rw [hj', e]
      simp only [rregS, List.headD_cons, List.tail_cons]
      cases rregS j l with
      | none => rfl
      | some p => simp
/-- The places of an Op's registers in its instruction. -/
def regO (op : Int) : List Nat := (if shD op then [1] else []) ++ (if shA op then [2] else []) ++ (if shB op then [3] else [])
theorem regO_len (op : Int) : (regO op).length = manyS op := by unfold regO manyS; split <;> split <;> split <;> simp
theorem regO_le (op : Int) : (regO op).length ≤ 3 := by unfold regO; split <;> split <;> split <;> simp
theorem regP_O (op : Int) (g : Nat) : regP (shD op) (shA op) (shB op) g 3 = (regO op).map fun o => .pointer (some ⟨g, o, none⟩) := by
  unfold regP regO
  cases shD op <;> cases shA op <;> cases shB op <;> simp
theorem regO_in (op : Int) (o : Nat) (h : o ∈ regO op) : o = 1 ∨ o = 2 ∨ o = 3 := by
  unfold regO at h
  simp only [List.mem_append] at h
  rcases h with (h | h) | h <;> split at h <;> simp at h <;> omega
/-- One more register stored. -/
theorem put_one (op x : Int) (dn : List Int) (o : Nat) (h : (regO op)[dn.length]? = some o) : (putRegs op dn 0).cells.toArray.setIfInBounds o (.int .i64 x) = (putRegs op (dn ++ [x]) 0).cells.toArray := by
  unfold regO at h
  unfold putRegs Mac.cells
  cases hd : shD op <;> cases ha : shA op <;> cases hb : shB op <;> simp only [hd, ha, hb, if_true, if_false, Bool.false_eq_true, List.nil_append, List.append_nil, List.cons_append] at h ⊢
  all_goals
    match dn, h with
    | [], h => first | (simp at h; done) | (simp at h; subst h; rfl)
    | [x0], h => first | (simp at h; done) | (simp at h; subst h; rfl)
    | [x0, x1], h => first | (simp at h; done) | (simp at h; subst h; rfl)
    | _ :: _ :: _ :: _, h => simp at h
theorem regO_two (op : Int) (o0 o1 : Nat) (h0 : (regO op)[0]? = some o0) (h1 : (regO op)[1]? = some o1) : (o0 = 1 ∧ o1 = 2) ∨ (o0 = 1 ∧ o1 = 3) ∨ (o0 = 2 ∧ o1 = 3) := by
  unfold regO at h0 h1
  cases hd : shD op <;> cases ha : shA op <;> cases hb : shB op <;> simp [hd, ha, hb] at h0 h1 <;> omega
theorem put_zero (op : Int) : (putRegs op [] 0).cells.toArray = #[.int .i64 op, .int .i64 0, .int .i64 0, .int .i64 0, .int .i64 0] := by
  unfold putRegs Mac.cells
  cases shD op <;> cases shA op <;> cases shB op <;> rfl
/-- What one instruction read comes to: it and what is left, or the flag. -/
def MacEnd (bs : List Int) (m : Mac) (rest : List Int) (bad : Bool) : Prop :=
  match readS bs with
  | some (m', l) => m = m' ∧ rest = l ∧ bad = false
  | none => bad = true
def MacPost (w : World) (g B : Nat) (bs : List Int) (e : Ending) (w' : World) : Prop :=
  ∃ (m : Mac) (rest : List Int) (bad : Bool), e = .returned (.agg m.cells.toArray) ∧ RdAt w' g B rest bad ∧ MacEnd bs m rest bad ∧ w.grownBy w' (some g)
theorem readS_cons (op : Int) (l : List Int) : readS (op :: l) = if isOp op then match rregS (manyS op) l with
      | none => none
      | some (rs, l') => if shK op = 0 then some (putRegs op rs 0, l') else match rnS 0 l' with
        | none => none
        | some (n, l'') => some (putRegs op rs (unfoldS n), l'')
    else none := rfl
theorem MacEnd.noop {op : Int} {l rest : List Int} {m : Mac} (h : isOp op = false) : MacEnd (op :: l) m rest true := by
  unfold MacEnd
  rw [readS_cons, h]
  rfl
theorem MacEnd.regs {op : Int} {l rs left : List Int} {bad : Bool} (ho : isOp op = true) (hk : shK op = 0) (h : RegEnd (manyS op) l rs left bad) : MacEnd (op :: l) (putRegs op rs 0) left bad := by
  unfold MacEnd
  rw [readS_cons, if_pos ho]
  rcases h with ⟨rfl, e⟩ | ⟨rfl, e⟩
  · rw [e]
  · rw [e]
    simp only
    rw [if_pos hk]
    refine ⟨rfl, rfl, ?_⟩
    first | rfl | trivial
theorem MacEnd.num {op : Int} {l rs left rest : List Int} {bad bad' : Bool} {k : Nat} (ho : isOp op = true) (hk : shK op ≠ 0) (h : RegEnd (manyS op) l rs left bad) (hn : NumEnd left bad k rest bad') : MacEnd (op :: l) (putRegs op rs (unfoldS k)) rest bad' := by
  unfold MacEnd
  unfold NumEnd at hn
  rw [readS_cons, if_pos ho]
  rcases h with ⟨rfl, e⟩ | ⟨rfl, e⟩
  · rw [e]
    simp only
    cases hr : rnS 0 left with
    | none => rw [hr] at hn; exact hn
    | some p => rw [hr] at hn; exact hn.2.2
  · rw [e]
    simp only
    rw [if_neg hk]
    cases hr : rnS 0 left with
    | none => rw [hr] at hn; exact hn
    | some p =>
      rw [hr] at hn
      obtain ⟨rfl, rfl, rfl⟩ := hn
      exact ⟨rfl, rfl, rfl⟩
theorem and15 (d : Int) (h : 0 ≤ d ∧ d < 256) : bits BinOp.and IntKind.i64 d 15 = d % 16 := by
  have key : ∀ a : Fin 256, bits BinOp.and IntKind.i64 (a.val : Int) 15 = (a.val : Int) % 16 := by decide +kernel
  have := key ⟨d.toNat, by omega⟩
  simp only [show ((d.toNat : Nat) : Int) = d from by omega] at this
  exact this
theorem head_in {left : List Int} (h : BytesOk left) : 0 ≤ left.headD 0 ∧ left.headD 0 < 256 := by
  cases left with
  | nil => simp
  | cons x l => exact h x (by simp)
theorem BytesOk.tail {left : List Int} (h : BytesOk left) : BytesOk left.tail := fun x hx => h x (List.mem_of_mem_tail hx)
end Go.Proofs.YtdldochhondifaaGreatDoor
namespace Go.Proofs.YtdldochhondifaaGreatDoor
open Go.RowKit

theorem Blk.set5 {w : World} {g : Nat} {t : TypeId} {x0 x1 x2 x3 x4 : Value} (h : Blk w g t #[x0, x1, x2, x3, x4]) (u0 u1 u2 u3 u4 : Value) :
    Blk (((((w.setCell ⟨g, 0, none⟩ u0).setCell ⟨g, 1, none⟩ u1).setCell ⟨g, 2, none⟩ u2).setCell ⟨g, 3, none⟩ u3).setCell ⟨g, 4, none⟩ u4) g t #[u0, u1, u2, u3, u4] := ((((h.set_ 0 u0).set_ 1 u1).set_ 2 u2).set_ 3 u3).set_ 4 u4
theorem only_five {w w1 : World} {g r : Nat} (h : w.grownBy w1 (some g)) (hp : w.heap.size ≤ r) (u0 u1 u2 u3 u4 : Value) :
    w.grownBy (((((w1.setCell ⟨r, 0, none⟩ u0).setCell ⟨r, 1, none⟩ u1).setCell ⟨r, 2, none⟩ u2).setCell ⟨r, 3, none⟩ u3).setCell ⟨r, 4, none⟩ u4) (some g) :=
  only_far (p := ⟨r, 4, none⟩) (only_far (p := ⟨r, 3, none⟩) (only_far (p := ⟨r, 2, none⟩) (only_far (p := ⟨r, 1, none⟩) (only_far (p := ⟨r, 0, none⟩) h hp _) hp _) hp _) hp _) hp _
theorem RdAt.off {w : World} {g B : Nat} {bs : List Int} {bad : Bool} (h : RdAt w g B bs bad) {r : Nat} (hB : B ≤ r) (hne : g ≠ r) (o : Nat) (u : Value) : RdAt (w.setCell ⟨r, o, none⟩ u) g B bs bad := by
  obtain ⟨v, h1, h2⟩ := h
  exact ⟨v, h1.far (p := ⟨r, o, none⟩) hne u, h2.set (p := ⟨r, o, none⟩) hB u⟩
theorem RdAt.five {w1 : World} {g B r : Nat} {bs : List Int} {bad : Bool} (h : RdAt w1 g B bs bad) (hB : B ≤ r) (hne : g ≠ r) (u0 u1 u2 u3 u4 : Value) :
    RdAt (((((w1.setCell ⟨r, 0, none⟩ u0).setCell ⟨r, 1, none⟩ u1).setCell ⟨r, 2, none⟩ u2).setCell ⟨r, 3, none⟩ u3).setCell ⟨r, 4, none⟩ u4) g B bs bad :=
  ((((h.off hB hne 0 u0).off hB hne 1 u1).off hB hne 2 u2).off hB hne 3 u3).off hB hne 4 u4
theorem only_row {w w' : World} {g g' : Nat} {t : TypeId} {cs : Array Value} (h : w.grownBy w' (some g)) (hb : Blk w g' t cs) (hne : g ≠ g') : Blk w' g' t cs := only_blk h hb fun e => hne e.symm
theorem drop_1 {α : Type} {l : List α} {k : Nat} {x : α} (h : l[k]? = some x) (hl : k + 1 = l.length) : l.drop k = [x] := by
  have hk : k < l.length := by omega
  rw [List.drop_eq_getElem_cons hk, List.drop_eq_nil_of_le (by omega)]
  rw [List.getElem?_eq_getElem hk] at h
  cases h
  rfl
theorem cells_some (m : Mac) (o : Nat) (h : o = 1 ∨ o = 2 ∨ o = 3) : ∃ u, m.cells.toArray[o]? = some u := by
  rcases h with rfl | rfl | rfl <;> exact ⟨_, rfl⟩
/-- What stands while an instruction is read: the result's block, the instruction's, the shape's, the Reader. -/
def MacHave (op : Int) (w : World) (g B gr gm gs : Nat) (dn left : List Int) (bad : Bool) (wr : World) : Prop :=
  Blk wr gr 39 #[.int .i64 0, .int .i64 0, .int .i64 0, .int .i64 0, .int .i64 0] ∧ Blk wr gm 39 (putRegs op dn 0).cells.toArray ∧
  Blk wr gs 129 #[.bool (shD op), .bool (shA op), .bool (shB op), .int .i64 (shK op)] ∧ RdAt wr g B left bad ∧ BytesOk left ∧ w.grownBy wr (some g)
theorem have_two {op : Int} {w w5 : World} {g B gr gm gs : Nat} {left : List Int} {bad : Bool} {y0 y1 : Int} {o0 o1 : Nat} (h : MacHave op w g B gr gm gs [] left bad w5) (hgm : g ≠ gm) (n1 : gr ≠ gm) (n4 : gs ≠ gm) (n6 : B ≤ gm) (n7 : w.heap.size ≤ gm) (h01 : o0 ≠ o1)
    (P0 : (putRegs op [] 0).cells.toArray.setIfInBounds o0 (.int .i64 y0) = (putRegs op ([] ++ [y0]) 0).cells.toArray) (P1 : (putRegs op [y0] 0).cells.toArray.setIfInBounds o1 (.int .i64 y1) = (putRegs op ([y0] ++ [y1]) 0).cells.toArray) :
    MacHave op w g B gr gm gs [y0, y1] left bad ((w5.setCell ⟨gm, o0, none⟩ (.int .i64 y0)).setCell ⟨gm, o1, none⟩ (.int .i64 y1)).drew ∧
    MacHave op w g B gr gm gs [y0, y1] left bad ((w5.setCell ⟨gm, o1, none⟩ (.int .i64 y1)).setCell ⟨gm, o0, none⟩ (.int .i64 y0)).drew := by
  obtain ⟨hq, hm, hs, ⟨v, hb, hv⟩, hby, hg⟩ := h
  refine ⟨⟨(hq.far (p := ⟨gm, o0, none⟩) n1 _).far (p := ⟨gm, o1, none⟩) n1 _, ?_, (hs.far (p := ⟨gm, o0, none⟩) n4 _).far (p := ⟨gm, o1, none⟩) n4 _, ⟨v, (hb.far (p := ⟨gm, o0, none⟩) hgm _).far (p := ⟨gm, o1, none⟩) hgm _, (hv.set (p := ⟨gm, o0, none⟩) n6 _).set (p := ⟨gm, o1, none⟩) n6 _⟩, hby, only_drew (only_far (p := ⟨gm, o1, none⟩) (only_far (p := ⟨gm, o0, none⟩) hg n7 _) n7 _)⟩,
    ⟨(hq.far (p := ⟨gm, o1, none⟩) n1 _).far (p := ⟨gm, o0, none⟩) n1 _, ?_, (hs.far (p := ⟨gm, o1, none⟩) n4 _).far (p := ⟨gm, o0, none⟩) n4 _, ⟨v, (hb.far (p := ⟨gm, o1, none⟩) hgm _).far (p := ⟨gm, o0, none⟩) hgm _, (hv.set (p := ⟨gm, o1, none⟩) n6 _).set (p := ⟨gm, o0, none⟩) n6 _⟩, hby, only_drew (only_far (p := ⟨gm, o0, none⟩) (only_far (p := ⟨gm, o1, none⟩) hg n7 _) n7 _)⟩⟩
  · have := (hm.set_ o0 (.int .i64 y0)).set_ o1 (.int .i64 y1)
    rw [P0, List.nil_append, P1] at this
    exact this
  · have := (hm.set_ o1 (.int .i64 y1)).set_ o0 (.int .i64 y0)
    rw [Array.setIfInBounds_comm _ _ h01.symm, P0, List.nil_append, P1] at this
    exact this
theorem ptrs_two {w5 : World} {A : Option Addr} {k gm o0 o1 : Nat} {ps : List Value} {u0 u1 : Value} {cs : Array Value} (h : PtrsAt w5 A k ps) (hm : Blk w5 gm 39 cs) : PtrsAt ((w5.setCell ⟨gm, o0, none⟩ u0).setCell ⟨gm, o1, none⟩ u1).drew A k ps :=
  h.kept fun b cs hb => (hb.far (p := ⟨gm, o0, none⟩) (blk_ne hb hm (by decide)) _).far (p := ⟨gm, o1, none⟩) (blk_ne hb hm (by decide)) _
/-- The loop over the registers: gk are left. -/
def macRel (op : Int) (bs : List Int) (w : World) (g B gr gm gs : Nat) (gk : Nat) (lv : Value) (_bv : Value) (wr : World) : Prop :=
  ∃ (A : Option Addr) (c : Nat) (dn left : List Int) (bad : Bool), lv = .slice A gk c ∧ gk ≤ c ∧ gk ≤ 3 ∧ Hid (PtrsAt wr A gk (((regO op).drop dn.length).map fun o => .pointer (some ⟨gm, o, none⟩))) ∧ Hid (dn.length + gk = manyS op) ∧ Hid (dn.length = 0 ∨ dn.length = 2) ∧
    Hid (MacHave op w g B gr gm gs dn left bad wr) ∧ Hid (RegNow (manyS op) bs dn left bad)

set_option maxRecDepth 100000 in
set_option maxHeartbeats 4000000 in
theorem mac_reads (g B : Nat) (op : Int) (l : List Int) (w : World) (h : RdAt w g B (op :: l) false) (hB : B ≤ g) (hbs : BytesOk (op :: l)) (ht : Tab w) (hn : 1 < g) :
    Calls Tryz.prog 93 #[.pointer (some ⟨g, 0, none⟩)] w (MacPost w g B (op :: l)) := by
  have HR := Lib.hid h
  have HBs := Lib.hid hbs
  have HT := Lib.hid ht
  have hgw : g < w.heap.size := by obtain ⟨v, h1, _⟩ := h; exact h1.lt
  clear h hbs ht
  go_enter Tryz.func93, Tryz.ntmps93
  go_wp2_with fail
  refine (Byte_any g B (op :: l) false _ (HR.out.alloc hB _) hB HBs.out).mono ?_
  rintro e w1 ⟨rfl, hr1, hg1⟩
  simp only [List.headD_cons, List.tail_cons, List.isEmpty_cons, Bool.or_false] at hr1 ⊢
  have hz1 : w.heap.size < w1.heap.size := by have := hg1.size; simp at this; omega
  have HQ1 := Lib.hid (only_blk hg1 (Blk.new w 39 #[.int .i64 0, .int .i64 0, .int .i64 0, .int .i64 0, .int .i64 0]) (by omega))
  have HG1 : Hid (w.grownBy w1 (some g)) := Lib.hid (only_trans (World.grownBy_alloc w _ _) hg1)
  have HR1 := Lib.hid hr1
  have hgr : g ≠ w.heap.size := by omega
  have hwle : w.heap.size ≤ w.heap.size := Nat.le_refl _
  clear hg1 hr1
  go_wp2_with fail
  refine (Of_any _ _ ((HT.out.only HG1.out hn).own ((Below.refl _ _).alloc (Nat.le_refl _) _))).mono ?_
  rintro e w2 ⟨rfl, hb2⟩
  have hz2 : w1.heap.size < w2.heap.size := by have := hb2.size; simp at this; omega
  have HQ2 := Lib.hid ((HQ1.out.alloc _).below hb2 (by simp; omega))
  have HM2 := Lib.hid ((Blk.new w1 39 #[.int .i64 op, .int .i64 0, .int .i64 0, .int .i64 0, .int .i64 0]).below hb2 (by simp))
  have HR2 := Lib.hid ((HR1.out.alloc hB (.cells #[.int .i64 op, .int .i64 0, .int .i64 0, .int .i64 0, .int .i64 0] 39)).below hb2 (by simp; omega) hB)
  have HG2 : Hid (w.grownBy w2 (some g)) := Lib.hid (only_after (only_alloc HG1.out _) hb2 (by simp; omega))
  have hgm : g ≠ w1.heap.size := by omega
  generalize hgre : w.heap.size = gr at *
  generalize hgme : w1.heap.size = gm at *
  have Hgr := Lib.hid hgre
  clear hb2 HQ1 HG1 HR1 hgre hgme
  cases ho : isOp op
  · have Ho := Lib.hid ho
    have HQ3 := Lib.hid (HQ2.out.alloc (.cells #[.bool (shD op), .bool (shA op), .bool (shB op), .int .i64 (shK op)] 129))
    have HM3 := Lib.hid (HM2.out.alloc (.cells #[.bool (shD op), .bool (shA op), .bool (shB op), .int .i64 (shK op)] 129))
    have HR3 := Lib.hid (HR2.out.alloc hB (.cells #[.bool (shD op), .bool (shA op), .bool (shB op), .int .i64 (shK op)] 129))
    have HG3 := Lib.hid (only_alloc HG2.out (.cells #[.bool (shD op), .bool (shA op), .bool (shB op), .int .i64 (shK op)] 129))
    obtain ⟨v, hblk, hv⟩ := HR3.out
    have f1 := hblk.frozen 1
    have r1 := hblk.cell 1
    have HK := Lib.hid hblk
    have HV := Lib.hid hv
    clear hblk hv
    have c0 := HM3.out.cell 0
    have c1 := HM3.out.cell 1
    have c2 := HM3.out.cell 2
    have c3 := HM3.out.cell 3
    have c4 := HM3.out.cell 4
    have q0 := HQ3.out.cell 0
    have q1 := HQ3.out.cell 1
    have q2 := HQ3.out.cell 2
    have q3 := HQ3.out.cell 3
    have q4 := HQ3.out.cell 4
    have k0 := HQ3.out.frozen 0
    have k1 := HQ3.out.frozen 1
    have k2 := HQ3.out.frozen 2
    have k3 := HQ3.out.frozen 3
    have k4 := HQ3.out.frozen 4
    go_wp2_with fail
    refine end_cell rfl rfl ((HQ3.out.far (p := ⟨g, 1, none⟩) hgr.symm _).set5 _ _ _ _ _) Tryz.underlying39 rfl (by kernel_rfl) rfl ?_
    exact ⟨⟨op, 0, 0, 0, 0⟩, l, true, rfl, RdAt.five ⟨v, HK.out.set_ 1 _, HV.out.set (p := ⟨g, 1, none⟩) hB _⟩ (by omega) hgr _ _ _ _ _, MacEnd.noop Ho.out, only_five (only_own HG3.out 1 _) (by rw [Hgr.out]; exact hwle) _ _ _ _ _⟩
  · have Ho := Lib.hid ho
    have HS3 : Hid (Blk (w2.alloc (.cells #[.bool (shD op), .bool (shA op), .bool (shB op), .int .i64 (shK op)] 129)) w2.heap.size 129 #[.bool (shD op), .bool (shA op), .bool (shB op), .int .i64 (shK op)]) := Lib.hid (Blk.new _ _ _)
    have r0 := HS3.out.cell 0
    have r1 := HS3.out.cell 1
    have r2 := HS3.out.cell 2
    have r3 := HS3.out.cell 3
    have HQ3 := Lib.hid (HQ2.out.alloc (.cells #[.bool (shD op), .bool (shA op), .bool (shB op), .int .i64 (shK op)] 129))
    have HM3 := Lib.hid (HM2.out.alloc (.cells #[.bool (shD op), .bool (shA op), .bool (shB op), .int .i64 (shK op)] 129))
    have HR3 := Lib.hid (HR2.out.alloc hB (.cells #[.bool (shD op), .bool (shA op), .bool (shB op), .int .i64 (shK op)] 129))
    have HG3 := Lib.hid (only_alloc HG2.out (.cells #[.bool (shD op), .bool (shA op), .bool (shB op), .int .i64 (shK op)] 129))
    have hs3 : (w2.alloc (.cells #[.bool (shD op), .bool (shA op), .bool (shB op), .int .i64 (shK op)] 129)).heap.size = w2.heap.size + 1 := by simp
    go_wp2_with fail
    generalize w2.alloc (.cells #[.bool (shD op), .bool (shA op), .bool (shB op), .int .i64 (shK op)] 129) = W at *
    generalize w2.heap.size = gs at *
    clear r0 r1 r2 r3
    refine (registers_any _ _ _ _ _ _).mono ?_
    rintro e w4 ⟨vp, rfl, hp, hb4⟩
    obtain ⟨A0, cp0, rfl, hcp0, hpt⟩ := hp.ptrs
    rw [regP_O, List.length_map] at hcp0 hpt ⊢
    have hol := regO_le op
    have HP4 := Lib.hid hpt
    have HOl := Lib.hid (regO_len op)
    have HH4 : Hid (MacHave op w g B gr gm gs [] l false w4) := Lib.hid ⟨HQ3.out.below hb4 (by omega), by rw [put_zero]; exact HM3.out.below hb4 (by omega), HS3.out.below hb4 (by omega), HR3.out.below hb4 (by omega) hB, HBs.out.tail, only_after HG3.out hb4 (by rw [Hgr.out]; omega)⟩
    clear hp hb4 hpt HQ3 HM3 HS3 HR3 HG3 hs3
    go_upto_block 0 with fail
    go_cut [3] (fun s wx => s = .pointer (some ⟨gm, 0, none⟩) ∧ ∃ (dn left : List Int) (bad : Bool), Hid (MacHave op w g B gr gm gs dn left bad wx) ∧ Hid (RegEnd (manyS op) l dn left bad))
    case first =>
      go_wp2_with fail
      go_loopg [6, 7] (regO op).length (macRel op l w g B gr gm gs)
      case atStart => exact ⟨A0, cp0, [], l, false, rfl, hcp0, hol, HP4, Lib.hid (by rw [HOl.out]; simp), Lib.hid (.inl rfl), HH4, Lib.hid (RegNow.start _ _)⟩
      case round =>
        obtain ⟨A, c, dn, left, bad, rfl, hc, h3, HP, HL, HD, HH, HN⟩ := hrel
        clear HP4 HH4 hcp0
        rcases (by omega : gk = 0 ∨ gk = 1 ∨ 2 ≤ gk) with rfl | rfl | h2
        · go_wp2_with fail
          go_meet
          exact ⟨rfl, dn, left, bad, HH, Lib.hid (HN.out.none_left (by have := HL.out; omega))⟩
        · obtain ⟨hq, hm, hs, hr, hby, hg⟩ := HH.out
          obtain ⟨o, ho'⟩ : ∃ o, (regO op)[dn.length]? = some o := ⟨(regO op)[dn.length]'(by have := HL.out; rw [HOl.out]; omega), List.getElem?_eq_getElem _⟩
          have hdrop := drop_1 ho' (by have := HL.out; rw [HOl.out]; omega)
          rw [hdrop] at HP
          obtain ⟨bp, off, cp, hA, hbp, hc0, _⟩ := PtrsAt.first HP.out
          subst hA
          have hoin := regO_in op o (List.mem_of_getElem? ho')
          have hgs : g ≠ gs := by obtain ⟨v, hb, _⟩ := hr; exact blk_ne hb hs (by decide)
          have hbg : g ≠ bp := by obtain ⟨v, hb, _⟩ := hr; exact blk_ne hb hbp (by decide)
          have Hput := Lib.hid (put_one op (left.headD 0) dn o ho')
          have HX := Lib.hid (head_in hby)
          have HNo := Lib.hid (HN.out.one (by have := HL.out; omega))
          have HTl := Lib.hid hby.tail
          clear hdrop ho'
          go_wp2_with fail
          refine (Byte_any g B left bad _ hr hB hby).mono ?_
          rintro e w5 ⟨rfl, hr5, hg5⟩
          have HQ5 := Lib.hid (only_row hg5 hq hgr)
          have HM5 := Lib.hid (only_row hg5 hm hgm)
          have HS5 := Lib.hid (only_row hg5 hs hgs)
          have HG5 := Lib.hid (only_trans hg hg5)
          have cb : w5.cell? ⟨bp, off, none⟩ = some (.pointer (some ⟨gm, o, none⟩)) := by rw [(only_row hg5 hbp hbg).cell, ← hbp.cell]; exact hc0
          generalize left.headD 0 = x at *
          generalize (bad || left.isEmpty) = bad5 at *
          obtain ⟨u, hu⟩ := cells_some (putRegs op dn 0) o hoin
          have co : w5.cell? ⟨gm, o, none⟩ = some u := by rw [HM5.out.cell]; exact hu
          have fo := HM5.out.frozen o
          obtain ⟨v, hblk, hv⟩ := hr5
          have f1 := hblk.frozen 1
          have r1 := hblk.cell 1
          have HK := Lib.hid hblk
          have HV := Lib.hid hv
          have n1 : gr ≠ gm := by omega
          have n2 : gr ≠ g := by omega
          have n3 : gm ≠ g := by omega
          have n4 : gs ≠ gm := by omega
          have n5 : gs ≠ g := by omega
          have n6 : B ≤ gm := by omega
          have n7 : w.heap.size ≤ gm := by rw [Hgr.out]; omega
          clear hq hm hs hr hby hg hbp hc0 hblk hv hg5 hu HP HN
          cases bad5 <;> by_cases h15 : 15 < x
          all_goals
            go_wp2_with fail
            go_meet
            refine ⟨rfl, dn ++ [x], left.tail, _, Lib.hid ⟨(HQ5.out.far (p := ⟨gm, o, none⟩) n1 _).far (p := ⟨g, 1, none⟩) n2 _, by rw [← Hput.out]; exact (HM5.out.set_ o _).far (p := ⟨g, 1, none⟩) n3 _, (HS5.out.far (p := ⟨gm, o, none⟩) n4 _).far (p := ⟨g, 1, none⟩) n5 _, ⟨v, (HK.out.far (p := ⟨gm, o, none⟩) hgm _).set_ 1 _, (HV.out.set (p := ⟨gm, o, none⟩) n6 _).set (p := ⟨g, 1, none⟩) hB _⟩, HTl.out, only_own (only_far (p := ⟨gm, o, none⟩) HG5.out n7 _) 1 _⟩, Lib.hid ?_⟩
            have := HNo.out
            simpa [h15] using this
        · obtain ⟨hq, hm, hs, hr, hby, hg⟩ := HH.out
          have h0 : dn = [] := by
            rcases HD.out with h | h
            · exact List.eq_nil_of_length_eq_zero h
            · have := HL.out
              have := HOl.out
              omega
          subst h0
          obtain ⟨o0, e0⟩ : ∃ o, (regO op)[0]? = some o := ⟨(regO op)[0]'(by have := HL.out; rw [HOl.out]; simp at this; omega), List.getElem?_eq_getElem _⟩
          obtain ⟨o1, e1⟩ : ∃ o, (regO op)[1]? = some o := ⟨(regO op)[1]'(by have := HL.out; rw [HOl.out]; simp at this; omega), List.getElem?_eq_getElem _⟩
          have hsplit : regO op = o0 :: o1 :: (regO op).drop 2 := by
            match hl : regO op, e0, e1 with
            | a :: b :: r, e0, e1 =>
              simp at e0 e1
              subst e0
              subst e1
              rfl
          have hP := HP.out
          rw [List.length_nil, List.drop_zero, hsplit] at hP
          simp only [List.map_cons] at hP
          obtain ⟨bp, off, cp, hA, hbp, hc0, hc1⟩ := PtrsAt.first hP
          have hc1 := hc1 _ _ rfl
          subst hA
          have HP2 := Lib.hid (PtrsAt.drop2 hP hc)
          have hgs : g ≠ gs := by obtain ⟨v, hb, _⟩ := hr; exact blk_ne hb hs (by decide)
          have hbg : g ≠ bp := by obtain ⟨v, hb, _⟩ := hr; exact blk_ne hb hbp (by decide)
          have hbm : bp ≠ gm := blk_ne hbp hm (by decide)
          have Hput0 := Lib.hid (put_one op (left.headD 0 / 16) [] o0 e0)
          have Hput1 := Lib.hid (put_one op (left.headD 0 % 16) [left.headD 0 / 16] o1 e1)
          have HX := Lib.hid (head_in hby)
          have e15 := and15 (left.headD 0) (head_in hby)
          have hx0 : 0 ≤ left.headD 0 := (head_in hby).1
          have hx1 : left.headD 0 < 256 := (head_in hby).2
          have HNo := Lib.hid (HN.out.two (by have := HL.out; simp at this ⊢; omega))
          have HTl := Lib.hid hby.tail
          have Ho12 := Lib.hid (regO_two op o0 o1 e0 e1)
          have HL2 : Hid (([] ++ [left.headD 0 / 16, left.headD 0 % 16] : List Int).length + (gk - 2) = manyS op) := Lib.hid (by have := HL.out; simp at this ⊢; omega)
          clear e0 e1 hsplit hP HP HL HN
          have hb1 : ((gk : Int) == 1) = false := by simp; omega
          have hl0 : (0 : Int) < (gk : Int) := by omega
          have hl1 : (1 : Int) < (gk : Int) := by omega
          have hl2 : (2 : Int) ≤ (gk : Int) := by omega
          go_wp2_with fail
          refine (Byte_any g B left bad _ hr hB hby).mono ?_
          rintro e w5 ⟨rfl, hr5, hg5⟩
          have HQ5 := Lib.hid (only_row hg5 hq hgr)
          have HM5 := Lib.hid (only_row hg5 hm hgm)
          have HS5 := Lib.hid (only_row hg5 hs hgs)
          have HG5 := Lib.hid (only_trans hg hg5)
          have HR5 := Lib.hid hr5
          have HB5 := Lib.hid (only_row hg5 hbp hbg)
          have cb : w5.cell? ⟨bp, off, none⟩ = some (.pointer (some ⟨gm, o0, none⟩)) := by rw [HB5.out.cell, ← hbp.cell]; exact hc0
          have cb1 : w5.cell? ⟨bp, off + 1, none⟩ = some (.pointer (some ⟨gm, o1, none⟩)) := by rw [HB5.out.cell, ← hbp.cell]; exact hc1
          have HP5 : Hid (PtrsAt w5 (if c = 2 then some ⟨bp, off, none⟩ else (some (⟨bp, off, none⟩ : Addr)).map (·.add 2)) (gk - 2) (((regO op).drop 2).map fun o => .pointer (some ⟨gm, o, none⟩))) := Lib.hid (by
            refine HP2.out.kept fun b cs hb => only_row hg5 hb ?_
            obtain ⟨v, hb', _⟩ := hr
            exact blk_ne hb' hb (by decide))
          generalize left.headD 0 = x at *
          generalize (bad || left.isEmpty) = bad5 at *
          obtain ⟨u0, hu0⟩ := cells_some (putRegs op [] 0) o0 (by have := Ho12.out; omega)
          obtain ⟨u1, hu1⟩ := cells_some (putRegs op [] 0) o1 (by have := Ho12.out; omega)
          have co0 : w5.cell? ⟨gm, o0, none⟩ = some u0 := by rw [HM5.out.cell]; exact hu0
          have co1 : w5.cell? ⟨gm, o1, none⟩ = some u1 := by rw [HM5.out.cell]; exact hu1
          have fo0 := HM5.out.frozen o0
          have fo1 := HM5.out.frozen o1
          have n1 : gr ≠ gm := by omega
          have n4 : gs ≠ gm := by omega
          have n6 : B ≤ gm := by omega
          have n7 : w.heap.size ≤ gm := by rw [Hgr.out]; omega
          clear hq hm hs hr hby hg hbp hc0 hc1 hg5 hu0 hu1 hr5 HP2 HH
          have HH5 : Hid (MacHave op w g B gr gm gs [] left.tail bad5 w5) := Lib.hid ⟨HQ5.out, HM5.out, HS5.out, HR5.out, HTl.out, HG5.out⟩
          have HTwo := Lib.hid (have_two HH5.out hgm n1 n4 n6 n7 (by have := Ho12.out; omega) Hput0.out Hput1.out)
          have HCc := Lib.hid hc
          clear hc
          by_cases hc2 : c = 2
          · have HP6 : Hid (PtrsAt w5 (some ⟨bp, off, none⟩) (gk - 2) (((regO op).drop 2).map fun o => .pointer (some ⟨gm, o, none⟩))) := Lib.hid (by have := HP5.out; rwa [if_pos hc2] at this)
            have Hc2 := Lib.hid hc2
            subst hc2
            rcases Ho12.out with ⟨rfl, rfl⟩ | ⟨rfl, rfl⟩ | ⟨rfl, rfl⟩
            all_goals
              have hck : gk ≤ 2 := HCc.out
              go_wp2_with fail
              go_region
              all_goals
                go_wp2_with fail
                go_roundg (gk - 2)
                case measure => omega
                case rel => exact ⟨some ⟨bp, off, none⟩, 0, [x / 16, x % 16], left.tail, bad5, by rw [show gk - 2 = 0 by omega], by omega, by omega, Lib.hid (ptrs_two HP6.out HM5.out), HL2, Lib.hid (.inr rfl), Lib.hid (by first | exact HTwo.out.1 | exact HTwo.out.2), HNo⟩
          · have HP6 : Hid (PtrsAt w5 (some ⟨bp, off + 2, none⟩) (gk - 2) (((regO op).drop 2).map fun o => .pointer (some ⟨gm, o, none⟩))) := Lib.hid (by have := HP5.out; rw [if_neg hc2] at this; exact this)
            have hck : gk ≤ c := HCc.out
            rcases Ho12.out with ⟨rfl, rfl⟩ | ⟨rfl, rfl⟩ | ⟨rfl, rfl⟩
            all_goals
              go_wp2_with fail
              go_region
              all_goals
                go_wp2_with fail
                go_roundg (gk - 2)
                case measure => omega
                case rel => exact ⟨some ⟨bp, off + 2, none⟩, c - 2, [x / 16, x % 16], left.tail, bad5, rfl, by omega, by omega, Lib.hid (ptrs_two HP6.out HM5.out), HL2, Lib.hid (.inr rfl), Lib.hid (by first | exact HTwo.out.1 | exact HTwo.out.2), HNo⟩
    case rest =>
      obtain ⟨rfl, rs, left, bad, HH, HE⟩ := hcut
      obtain ⟨hq, hm, hs, hr, hby, hg⟩ := HH.out
      have n1 : gr ≠ gm := by omega
      have n6 : B ≤ gm := by omega
      have n7 : w.heap.size ≤ gm := by rw [Hgr.out]; omega
      have n8 : w.heap.size ≤ gr := by rw [Hgr.out]; omega
      have n9 : B ≤ gr := by omega
      have r3 := hs.cell 3
      by_cases hk : shK op = 0
      · have hk0 : (shK op != 0) = false := by simp [hk]
        have Hk := Lib.hid hk
        obtain ⟨d, a, b, hput⟩ : ∃ d a b, putRegs op rs 0 = ⟨op, d, a, b, 0⟩ := ⟨_, _, _, rfl⟩
        rw [hput] at hm
        have HPut := Lib.hid hput
        have c0 := hm.cell 0
        have c1 := hm.cell 1
        have c2 := hm.cell 2
        have c3 := hm.cell 3
        have c4 := hm.cell 4
        have q0 := hq.cell 0
        have q1 := hq.cell 1
        have q2 := hq.cell 2
        have q3 := hq.cell 3
        have q4 := hq.cell 4
        have k0 := hq.frozen 0
        have k1 := hq.frozen 1
        have k2 := hq.frozen 2
        have k3 := hq.frozen 3
        have k4 := hq.frozen 4
        have HQ := Lib.hid hq
        have HRd := Lib.hid hr
        have HG := Lib.hid hg
        simp only [Mac.cells] at c0 c1 c2 c3 c4
        clear hq hm hs hr hby hg hk hput
        go_wp2_with fail
        refine end_cell rfl rfl (HQ.out.set5 _ _ _ _ _) Tryz.underlying39 rfl (by kernel_rfl) rfl ?_
        refine ⟨⟨op, d, a, b, 0⟩, left, bad, rfl, RdAt.five HRd.out n9 hgr _ _ _ _ _, ?_, only_five HG.out n8 _ _ _ _ _⟩
        rw [← HPut.out]
        exact MacEnd.regs Ho.out Hk.out HE.out
      · have hk0 : (shK op != 0) = true := by simp [hk]
        have Hk := Lib.hid hk
        have HQ := Lib.hid hq
        have HM := Lib.hid hm
        have HRd := Lib.hid hr
        have HG := Lib.hid hg
        have HBy := Lib.hid hby
        clear hq hm hs hr hby hg hk
        go_wp2_with fail
        refine (Number_reads g B left bad _ HRd.out hB HBy.out).mono ?_
        rintro e w6 ⟨k, rest, bad6, rfl, hk64, hr6, hn6, hg6⟩
        have HNe := Lib.hid (MacEnd.num Ho.out Hk.out HE.out hn6)
        have HQ6 := Lib.hid (only_row hg6 HQ.out hgr)
        have hm6 := only_row hg6 HM.out hgm
        have HR6 := Lib.hid hr6
        have HG6 := Lib.hid (only_trans HG.out hg6)
        obtain ⟨d, a, b, hput⟩ : ∃ d a b, ∀ n, putRegs op rs n = ⟨op, d, a, b, n⟩ := ⟨_, _, _, fun _ => rfl⟩
        rw [hput] at hm6
        rw [hput] at HNe
        have HM6 := Lib.hid hm6
        clear hr6 hn6 hg6 hput hm6
        go_wp2_with fail
        refine (Unfold_any k _ hk64).mono ?_
        rintro e w' ⟨rfl, rfl⟩
        have hm6 := HM6.out
        have hq := HQ6.out
        have c0 := hm6.cell 0
        have c1 := hm6.cell 1
        have c2 := hm6.cell 2
        have c3 := hm6.cell 3
        have c4 := hm6.cell 4
        have f4 := hm6.frozen 4
        have q0 := hq.cell 0
        have q1 := hq.cell 1
        have q2 := hq.cell 2
        have q3 := hq.cell 3
        have q4 := hq.cell 4
        have k0 := hq.frozen 0
        have k1 := hq.frozen 1
        have k2 := hq.frozen 2
        have k3 := hq.frozen 3
        have k4 := hq.frozen 4
        simp only [Mac.cells] at c0 c1 c2 c3 c4
        clear hm6 hq
        go_wp2_with fail
        refine end_cell rfl rfl ((HQ6.out.far (p := ⟨gm, 4, none⟩) n1 _).set5 _ _ _ _ _) Tryz.underlying39 rfl (by kernel_rfl) rfl ?_
        exact ⟨⟨op, d, a, b, unfoldS k⟩, rest, bad6, rfl, RdAt.five (HR6.out.off n6 hgm 4 _) n9 hgr _ _ _ _ _, HNe.out, only_five (only_far (p := ⟨gm, 4, none⟩) HG6.out n7 _) n8 _ _ _ _ _⟩
end Go.Proofs.YtdldochhondifaaGreatDoor
namespace Go.Proofs.YtdldochhondifaaGreatDoor
open Go.RowKit

end Go.Proofs.YtdldochhondifaaGreatDoor
