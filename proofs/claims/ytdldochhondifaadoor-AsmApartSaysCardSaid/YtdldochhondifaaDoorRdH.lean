/-
  Several texts in one (RdG RdH): what each proves stands at its theorems.
  Conditions: as the theorems say.
-/
import Derived.Test.YtdldochhondifaaDoorRdE
namespace Go.Proofs.YtdldochhondifaaDoor
open Go.RowKit

/-- What reading a number from a place on comes to. -/
def RnEnd (bs : List Int) (at' : Nat) (k : Nat) (next : Int) : Prop :=
  match rnS 0 (bs.drop at') with
  | some (n, l) => k = n ∧ next = (bs.length : Int) - l.length
  | none => next = -1
def RnPost (bs : List Int) (at' : Nat) (w : World) (e : Ending) (w' : World) : Prop :=
  ∃ (k : Nat) (next : Int), e = .returned (.tuple #[.int .u64 k, .int .i64 next]) ∧ w = w' ∧ k < 18446744073709551616 ∧ RnEnd bs at' k next
theorem RnEnd.none {bs : List Int} {at' k : Nat} (h : rnS 0 (bs.drop at') = none) : RnEnd bs at' k (-1) := by unfold RnEnd; rw [h]
theorem RnEnd.some {bs : List Int} {at' k j : Nat} (h : rnS 0 (bs.drop at') = some (k, bs.drop j)) (hj : j ≤ bs.length) : RnEnd bs at' k j := by
  unfold RnEnd
  rw [h]
  refine ⟨rfl, ?_⟩
  simp only [List.length_drop]
  omega
theorem bat_cell {w : World} {B len c : Nat} {A : Option Addr} {bs : List Int} (h : BAt w B (.slice A len c) bs) (hl : bs.length = len) {k : Nat} (hk : k < len) : ∃ b off x, A = some ⟨b, off, Option.none⟩ ∧ bs[k]? = .some x ∧ w.cell? ⟨b, off + k, Option.none⟩ = .some (.int .u8 x) ∧ bs.drop k = x :: bs.drop (k + 1) := by
  obtain ⟨A', c', e, h1, h2, h3⟩ := h
  cases e
  obtain ⟨b, off, rfl, hb, hc⟩ := h3 (by omega)
  have hx : bs[k]? = .some (bs[k]'(by omega)) := List.getElem?_eq_getElem _
  exact ⟨b, off, _, rfl, hx, hc k _ hx, List.drop_eq_getElem_cons _⟩

set_option maxRecDepth 100000 in
set_option maxHeartbeats 2000000 in
theorem readNumber_any (v : Value) (bs : List Int) (at' : Nat) (az : Int) (w : World) (haz : az = at') (hv : BAt w w.heap.size v bs) (hbs : BytesOk bs) (hat : at' ≤ bs.length) :
    Calls Tryd.prog 62 #[v, .int .i64 az] w (RnPost bs at' w) := by
  have HV := Lib.hid hv
  have HBs := Lib.hid hbs
  obtain ⟨A, c, hvv, hlc, h63, _⟩ := hv
  subst hvv
  obtain ⟨len, hlen⟩ : ∃ len, bs.length = len := ⟨_, rfl⟩
  have HL := Lib.hid hlen
  rw [hlen] at hlc HV hat ⊢
  have Haz := Lib.hid haz
  have haz0 : 0 ≤ az := by omega
  have haz1 : az ≤ len := by omega
  clear hlen hbs haz
  go_enter Tryd.func62, Tryd.ntmps62
  go_wp2_with fail
  go_loop [6, 7] (fun n i => ∃ (acc i' : Nat), n = .int .u64 acc ∧ i = .int .i64 i' ∧ i' ≤ 10 ∧ at' + i' ≤ len ∧ Hid (acc < 128 ^ i') ∧ acc < 18446744073709551616 ∧ Hid (NumNow (bs.drop at') i' acc (bs.drop (at' + i')))) (fun _ i => 10 - (intOf i).toNat)
  case atStart => exact ⟨0, 0, rfl, rfl, by omega, hat, Lib.hid (by omega), by omega, Lib.hid (NumNow.start _)⟩
  case round =>
    obtain ⟨acc, i, rfl, rfl, hi, hai, HA, ha, HN⟩ := hrel
    by_cases hin : i < 10 ∧ at' + i < len
    · obtain ⟨hi9, hail⟩ := hin
      obtain ⟨b, off, d, hA, hx, hc, hdr⟩ := bat_cell HV.out HL.out hail
      subst hA
      have hd := HBs.out d (List.mem_of_getElem? hx)
      have HN1 := Lib.hid (hdr ▸ HN.out : NumNow (bs.drop at') i acc (d :: bs.drop (at' + i + 1)))
      have hz1 : az + (i : Int) < (len : Int) := by have := Haz.out; omega
      have hzt : (az + (i : Int)).toNat = at' + i := by have := Haz.out; omega
      have hz0 : 0 ≤ az + (i : Int) := by omega
      have hd0 : 0 ≤ d := hd.1
      have hd1 : d < 256 := hd.2
      have hm0 : 0 ≤ d % 128 := by omega
      have hm1 : d % 128 < 128 := by omega
      clear hx hdr hd
      by_cases hbig : i = 9 ∧ 1 < d
      · obtain ⟨h9, hd2⟩ := hbig
        have HNo := Lib.hid ((h9 ▸ HN1.out : NumNow (bs.drop at') 9 acc (d :: bs.drop (at' + i + 1))).big hd2)
        have hb9 : ((i : Int) == 9) = true := by simp [h9]
        clear h9
        go_wp2_with fail
        go_ret2
        exact ⟨0, -1, rfl, rfl, by omega, RnEnd.none HNo.out⟩
      · have hfit := digit_fits HA.out (show (d % 128).toNat < 128 by omega) (by omega) (fun h => by omega)
        have hsh : IntKind.u64.wrap (d % 128 * 2 ^ (7 * (i : Int)).toNat) = (((d % 128).toNat * 128 ^ i : Nat) : Int) := by
          have e1 : (7 * (i : Int)).toNat = 7 * i := by omega
          rw [e1, pow7, IntKind.wrap_u64, Int.natCast_mul, show ((d % 128).toNat : Int) = d % 128 by omega]
          have e2 := hfit.1
          have : ((d % 128).toNat * 128 ^ i : Nat) < (18446744073709551616 : Int) := by omega
          rw [Int.natCast_mul, show ((d % 128).toNat : Int) = d % 128 by omega] at this
          exact Int.emod_eq_of_lt (Int.mul_nonneg hm0 (by omega)) this
        have HSh := Lib.hid hsh
        have HF := Lib.hid hfit
        have HBig := Lib.hid hbig
        have hb9 : (i = 9 → ¬ 1 < d) := fun h h' => hbig ⟨h, h'⟩
        clear hsh hfit hbig
        have HSum : Hid (IntKind.u64.wrap ((acc : Int) + IntKind.u64.wrap (d % 128 * 2 ^ (7 * (i : Int)).toNat)) = ((acc + (d % 128).toNat * 128 ^ i : Nat) : Int)) := Lib.hid (by
          rw [HSh.out, IntKind.wrap_u64]
          have := HF.out.2.1
          omega)
        have HSum2 : Hid (IntKind.u64.wrap ((acc : Int) + IntKind.u64.wrap (d % 128 * 2 ^ (7 * i))) = ((acc + (d % 128).toNat * 128 ^ i : Nat) : Int)) := Lib.hid (by
          have := HSum.out
          rwa [show (7 * (i : Int)).toNat = 7 * i by omega] at this)
        by_cases h9 : i = 9
        all_goals
          first | (have hb9' : ((i : Int) == 9) = true := by simp [h9]) | (have hb9' : ((i : Int) == 9) = false := by simp; omega)
          first | (have hle : ¬ 1 < d := hb9 h9) | have hle : True := trivial
          clear hb9
          have H9 := Lib.hid h9
          clear h9
          by_cases h128 : d < 128
          · by_cases h0 : d = 0 ∧ 0 < i
            · obtain ⟨rfl, hi0⟩ := h0
              have HNo := Lib.hid (HN1.out.zero hi0)
              clear HBig
              go_wp2_with fail
              go_ret2
              exact ⟨0, -1, rfl, rfl, by omega, RnEnd.none HNo.out⟩
            · have hlast := HN1.out.last (by omega) h0 HBig.out h128
              rw [show d.toNat = (d % 128).toNat by omega] at hlast
              have HLa := Lib.hid hlast
              have hg0 : d = 0 → ¬ 0 < i := fun h h' => h0 ⟨h, h'⟩
              clear hlast h0 HBig
              by_cases hd0' : d = 0
              all_goals
                first | (have hdb : (d == 0) = true := by simp [hd0']) | (have hdb : (d == 0) = false := by simp [hd0'])
                first | (have hi0 : ¬ 0 < i := hg0 hd0') | have hi0 : True := trivial
                clear hg0
                have Hd0 := Lib.hid hd0'
                clear hd0'
                go_wp2_with fail
                go_ret2
                refine ⟨acc + (d % 128).toNat * 128 ^ i, ((at' + i + 1 : Nat) : Int), ?_, rfl, HF.out.2.1, RnEnd.some HLa.out (by rw [HL.out]; omega)⟩
                have e2 : az + (i : Int) + 1 = ((at' + i + 1 : Nat) : Int) := by have := Haz.out; omega
                rw [← HSum2.out, ← e2]
                rfl
          · first
              | exact absurd (show 1 < d by omega) hle
              | (clear HBig
                 have Hi9 : i ≤ 8 := by have := H9.out; omega
                 go_wp2_with fail
                 go_round
                 case rel =>
                   refine ⟨_, i + 1, by rw [HSum2.out], by go_num, by omega, by omega, Lib.hid HF.out.2.2, HF.out.2.1, Lib.hid ?_⟩
                   rw [show at' + (i + 1) = at' + i + 1 by omega, show (d % 128).toNat = (d - 128).toNat by omega]
                   exact HN1.out.more Hi9 (by omega)
                 case measure => simp [intOf]; omega)
    · have hnone : rnS 0 (bs.drop at') = none := by
        by_cases h10 : i = 10
        · subst h10; exact HN.out.far
        · have : bs.drop (at' + i) = [] := List.drop_eq_nil_of_le (by rw [HL.out]; omega)
          exact (this ▸ HN.out : NumNow (bs.drop at') i acc []).nil
      have HNo := Lib.hid hnone
      have hout : i < 10 → (len : Int) ≤ az + (i : Int) := fun h => by have h1 : ¬ at' + i < len := fun h' => hin ⟨h, h'⟩; have := Haz.out; omega
      clear hnone
      by_cases h10 : i < 10
      all_goals
        first | have hq := hout h10 | have hq : True := trivial
        have hq2 : az + (i : Int) ≤ (len : Int) := by have := Haz.out; omega
        clear hout hin
        go_wp2_with fail
        go_ret2
        exact ⟨0, -1, rfl, rfl, by omega, RnEnd.none HNo.out⟩
end Go.Proofs.YtdldochhondifaaDoor
namespace Go.Proofs.YtdldochhondifaaDoor
open Go.RowKit

/-- The end of a function whose first result lies in a cell. -/
theorem end_cell_tmp {P : Program} {fn : Func} {R : Ending → World → Prop} {a : Act} {w : World} {q p : Tmp} {ty t : TypeId} {g : Nat} {cs : Array Value} {d : TypeDesc} (h : fn.results = #[.cell p ty, .tmp q])
    (hp : a.tmps.getD p undef = .pointer (some ⟨g, 0, none⟩)) (hb : Blk w g t cs) (hu : P.underlying ty = some d) (hd : (match d with | .struct _ | .array _ _ => true | _ => false) = true)
    (hi : (P.info? ty).map (·.size) = some cs.size) (hdf : a.defers = []) (hR : R (.returned (.tuple #[.agg cs, a.tmps.getD q undef])) w) : bodyPost P fn R .ret a w := by
  refine bodyPost_ret (v := .tuple #[.agg cs, a.tmps.getD q undef]) ?_ hdf hR
  have hp' : a.tmps[p]?.getD undef = .pointer (some ⟨g, 0, none⟩) := by simpa using hp
  simp [results, h, hp', asAddr, run_loadVar_row w g t ty cs (0, 0) d hb hu hd hi]

/-- How many of a text's letters are registers. -/
def cntS (l : List UInt8) : Nat := (l.filter fun x => x == 100 || x == 97 || x == 98).length
theorem cntS_snoc (l : List UInt8) (x : UInt8) : cntS (l ++ [x]) = cntS l + if x == 100 || x == 97 || x == 98 then 1 else 0 := by
  unfold cntS
  rw [List.filter_append, List.length_append]
  cases h : (x == 100 || x == 97 || x == 98) <;> simp [h]
theorem cntS_all (op : Int) (h : isOp op = true) : cntS (fldS op).data.toList = manyS op := by
  rw [isOp_iff] at h
  have key : ∀ k : Fin 48, 1 ≤ k.val → cntS (fldS (k.val : Int)).data.toList = manyS (k.val : Int) := by decide +kernel
  have := key ⟨op.toNat, by omega⟩ (by simp; omega)
  simp only [show ((op.toNat : Nat) : Int) = op from by omega] at this
  exact this
theorem take_next (s : ByteArray) (k : Nat) (h : k < s.size) : s.data.toList.take (k + 1) = s.data.toList.take k ++ [s[k]] := by
  rw [List.take_succ_eq_append_getElem (by simpa using h)]; rfl
theorem cntS_le (l : List UInt8) : cntS l ≤ l.length := List.length_filter_le _ _

/-- What reading an instruction from a place on comes to. -/
def RmEnd (bs : List Int) (at' : Nat) (m : Mac) (next : Int) : Prop :=
  match readS (bs.drop at') with
  | some (m', l) => m = m' ∧ next = (bs.length : Int) - l.length
  | none => next = -1
def RmPost (bs : List Int) (at' : Nat) (w : World) (e : Ending) (w' : World) : Prop :=
  ∃ (m : Mac) (next : Int), e = .returned (.tuple #[.agg m.cells.toArray, .int .i64 next]) ∧ Below w.heap.size w w' ∧ RmEnd bs at' m next
theorem RmEnd.noop {bs l : List Int} {at' : Nat} {op : Int} {m : Mac} (hd : bs.drop at' = op :: l) (h : isOp op = false) : RmEnd bs at' m (-1) := by
  unfold RmEnd
  rw [hd, readS_cons, h]
  rfl
theorem RmEnd.noreg {bs l : List Int} {at' : Nat} {op : Int} {m : Mac} (hd : bs.drop at' = op :: l) (h : rregS (manyS op) l = none) : RmEnd bs at' m (-1) := by
  unfold RmEnd
  rw [hd, readS_cons]
  split <;> rename_i hh
  · split at hh
    · rw [h] at hh; cases hh
    · cases hh
  · rfl
theorem RmEnd.regs {bs l rs : List Int} {at' j : Nat} {op : Int} (hd : bs.drop at' = op :: l) (ho : isOp op = true) (hk : shK op = 0) (h : rregS (manyS op) l = some (rs, bs.drop j)) (hj : j ≤ bs.length) : RmEnd bs at' (putRegs op rs 0) j := by
  unfold RmEnd
  rw [hd, readS_cons, if_pos ho, h]
  simp only
  rw [if_pos hk]
  refine ⟨rfl, ?_⟩
  simp only [List.length_drop]
  omega
theorem RmEnd.nonum {bs l rs : List Int} {at' j : Nat} {op : Int} {m : Mac} (hd : bs.drop at' = op :: l) (hk : shK op ≠ 0) (h : rregS (manyS op) l = some (rs, bs.drop j)) (hn : rnS 0 (bs.drop j) = none) : RmEnd bs at' m (-1) := by
  unfold RmEnd
  rw [hd, readS_cons, h]
  simp only
  rw [if_neg hk, hn]
  split <;> rename_i hh
  · split at hh
    · cases hh
    · cases hh
  · first | rfl | trivial
theorem RmEnd.num {bs l rs l' : List Int} {at' j n : Nat} {op : Int} (hd : bs.drop at' = op :: l) (ho : isOp op = true) (hk : shK op ≠ 0) (h : rregS (manyS op) l = some (rs, bs.drop j)) (hn : rnS 0 (bs.drop j) = some (n, l')) : RmEnd bs at' (putRegs op rs (unfoldS n)) ((bs.length : Int) - l'.length) := by
  unfold RmEnd
  rw [hd, readS_cons, if_pos ho, h]
  simp only
  rw [if_neg hk, hn]
  exact ⟨rfl, rfl⟩
theorem RegNow.empty {k : Nat} {bs dn : List Int} (h : RegNow k bs dn [] false) (hk : dn.length < k) : rregS k bs = none := by
  rcases (by omega : k - dn.length = 1 ∨ 2 ≤ k - dn.length) with h1 | h1
  · rcases h.one h1 with ⟨_, e⟩ | ⟨e, _⟩
    · exact e
    · simp at e
  · rcases h.two h1 with ⟨_, e⟩ | ⟨e, _⟩
    · exact e
    · simp at e
theorem RegNow.over {k : Nat} {bs dn l : List Int} {x : Int} (h : RegNow k bs dn (x :: l) false) (hk : k - dn.length = 1) (hx : 15 < x) : rregS k bs = none := by
  rcases h.one hk with ⟨_, e⟩ | ⟨e, _⟩
  · exact e
  · simp at e; omega
theorem RegNow.one' {k : Nat} {bs dn l : List Int} {x : Int} (h : RegNow k bs dn (x :: l) false) (hk : k - dn.length = 1) (hx : ¬ 15 < x) : RegNow k bs (dn ++ [x]) l false := by
  rcases h.one hk with ⟨e, _⟩ | ⟨_, e⟩
  · simp at e; omega
  · refine .inr ⟨rfl, ?_⟩
    simp only [List.headD_cons, List.tail_cons] at e
    rw [e, show k - (dn ++ [x]).length = 0 by simp; omega]
    simp [rregS]
theorem RegNow.two' {k : Nat} {bs dn l : List Int} {x : Int} (h : RegNow k bs dn (x :: l) false) (hk : 2 ≤ k - dn.length) : RegNow k bs (dn ++ [x / 16, x % 16]) l false := by
  have := h.two hk
  simpa using this
theorem RegNow.done {k : Nat} {bs dn left : List Int} (h : RegNow k bs dn left false) (hk : k = dn.length) : rregS k bs = some (dn, left) := by
  rcases h.none_left (by omega) with ⟨e, _⟩ | ⟨_, e⟩
  · cases e
  · exact e
/-- The loop that reads the registers: gk are to come. -/
def rmRel (bs l : List Int) (len : Nat) (op : Int) (w : World) (gr gm : Nat) (gk : Nat) (av rv : Value) (_xv : Value) (wr : World) : Prop :=
  ∃ (p : Nat) (z : Int) (dn : List Int), av = .int .i64 z ∧ z = p ∧ p ≤ len ∧ Hid (OwnInts wr (gm + 1) rv dn) ∧ Hid (dn.length + gk = manyS op) ∧ gk ≤ 3 ∧ dn.length ≤ 3 ∧
    Hid (Blk wr gr 57 #[.int .i64 0, .int .i64 0, .int .i64 0, .int .i64 0, .int .i64 0]) ∧ Hid (Blk wr gm 57 #[.int .i64 op, .int .i64 0, .int .i64 0, .int .i64 0, .int .i64 0]) ∧
    Hid (Below w.heap.size w wr) ∧ Hid (RegNow (manyS op) l dn (bs.drop p) false)
theorem many_le (op : Int) : manyS op ≤ 3 := by rw [← regO_len]; exact regO_le op
end Go.Proofs.YtdldochhondifaaDoor
