/-
  Contract of mac.live: the sets of live registers, ahead of each instruction.
  Conditions: the slice reads as instructions that may stand; the table shapes lies as its initialiser lays it.
-/
import Derived.Test.YtkecgobbklmeaaaDoorLiB
namespace Go.Proofs.YtkecgobbklmeaaaDoor
open Go.RowKit
attribute [local go_sem ↓] Go.wp_at_zero Go.wp_at_succ

theorem infoSet : (Tryd.prog.info? 85).map (fun i => (i.zero, i.size, i.bytes)) = some (some (.int .u64 0), 1, 8) := by kernel_rfl
/-- What is found so far, of all registers: no more than what is live, and each of it justified. -/
structure SetsOk (ms : List Mac) (S : Nat → Nat) : Prop where
  bits : ∀ i, Bits16 (S i)
  found : ∀ r, r < 16 → Found ms r (fun i => (S i).testBit r)
  just : ∀ r i, r < 16 → i < ms.length → (S i).testBit r = true → stepB ms r (fun i => (S i).testBit r) i = true
theorem sets_none (ms : List Mac) : SetsOk ms fun _ => 0 := ⟨fun _ => by unfold Bits16; omega, fun r _ k _ h => by simp at h, fun r i _ _ h => by simp at h⟩
theorem sets_set {ms : List Mac} {S : Nat → Nat} (h : SetsOk ms S) {i : Nat} (hi : i < ms.length) {s : Nat} (hs : Bits16 s) (hb : ∀ r, r < 16 → s.testBit r = stepB ms r (fun i => (S i).testBit r) i) : SetsOk ms fun k => if k = i then s else S k := by
  have sub : ∀ r, r < 16 → ∀ k, k < ms.length → (S k).testBit r = true → (if k = i then s else S k).testBit r = true := by
    intro r hr k hk hx
    by_cases e : k = i
    · subst e
      rw [if_pos rfl, hb r hr]
      exact h.just r k hr hk hx
    · rw [if_neg e]; exact hx
  refine ⟨fun k => ?_, fun r hr k hk hx => ?_, fun r k hr hk hx => ?_⟩
  · by_cases e : k = i
    · rw [if_pos e]; exact hs
    · rw [if_neg e]; exact h.bits k
  · by_cases e : k = i
    · subst e
      simp only [if_true] at hx
      rw [hb r hr] at hx
      exact live_in (h.found r hr) k hk hx
    · simp only [if_neg e] at hx
      exact h.found r hr k hk hx
  · by_cases e : k = i
    · subst e
      simp only [if_true] at hx
      rw [hb r hr] at hx
      exact stepB_mono (fun q hq => sub r hr q hq) k hx
    · simp only [if_neg e] at hx
      exact stepB_mono (fun q hq => sub r hr q hq) k (h.just r k hr hk hx)
/-- The inner loop of live: instructions gi - 1 .. 0 are to come. -/
def setIn (ms : List Mac) (len : Nat) (X : Nat → Nat) (w : World) (gi : Nat) (cv iv : Value) (wx : World) : Prop :=
  ∃ (Y : Nat → Nat) (cb : Bool) (z : Int), cv = .bool cb ∧ iv = .int .i64 z ∧ z = (gi : Int) - 1 ∧ gi ≤ len ∧ Hid (wx.rowIs w.heap.size 85 len (fun i => .int .u64 (Y i : Int))) ∧ Hid (SetsOk ms Y) ∧ Hid (Below w.heap.size w wx) ∧
    Hid (cb = true → missS Y len < missS X len) ∧ Hid (cb = false → missS Y len = missS X len ∧ ∀ j, gi ≤ j → j < len → ∀ r, r < 16 → stepB ms r (fun i => (Y i).testBit r) j = true → (Y j).testBit r = true)
/-- The outer loop. -/
def setOut (ms : List Mac) (len : Nat) (w : World) (gk : Nat) (cv : Value) (wr : World) : Prop :=
  ∃ (X : Nat → Nat) (bb : Bool), cv = .bool bb ∧ Hid (wr.rowIs w.heap.size 85 len (fun i => .int .u64 (X i : Int))) ∧ Hid (SetsOk ms X) ∧ Hid (Below w.heap.size w wr) ∧ Hid (gk = 2 * missS X len + (if bb then 1 else 0)) ∧ Hid (bb = false → ∀ r, r < 16 → Shut ms r (fun i => (X i).testBit r))
section
variable {ms : List Mac} {len : Nat} {X Y : Nat → Nat} {w wx : World} {j s : Nat} {cb : Bool}
theorem setIn_store (hlen : ms.length = len) (hj : j < len) (hR : wx.rowIs w.heap.size 85 len (fun i => .int .u64 (Y i : Int))) (hF : SetsOk ms Y) (hB : Below w.heap.size w wx) (h1 : cb = true → missS Y len < missS X len)
    (h0 : cb = false → missS Y len = missS X len ∧ ∀ q, j + 1 ≤ q → q < len → ∀ r, r < 16 → stepB ms r (fun i => (Y i).testBit r) q = true → (Y q).testBit r = true) (hne : s ≠ Y j) (hs : Bits16 s) (hb : ∀ r, r < 16 → s.testBit r = stepB ms r (fun i => (Y i).testBit r) j) :
    setIn ms len X w j (.bool true) (.int .i64 ((j : Int) - 1)) (wx.setCell ⟨w.heap.size, j, none⟩ (.int .u64 s)) := by
  have hm := missS_set (S := Y) (i := j) (s := s) (miss_less hs (hF.bits j) hne fun r hr hx => by rw [hb r hr]; exact hF.just r j hr (by omega) hx) len hj
  have hle : missS Y len ≤ missS X len := by
    cases cb
    · exact Nat.le_of_eq (h0 rfl).1
    · exact Nat.le_of_lt (h1 rfl)
  refine ⟨fun k => if k = j then s else Y k, true, _, rfl, rfl, rfl, by omega, Lib.hid ?_, Lib.hid (sets_set hF (by omega) hs hb), Lib.hid (hB.setCell (Nat.le_refl _) _), Lib.hid fun _ => by omega, Lib.hid fun h => by cases h⟩
  refine (hR.set j (.int .u64 s)).congr fun i hi => ?_
  by_cases e : i = j <;> simp [e]
theorem setIn_skip (hj : j < len) (hR : wx.rowIs w.heap.size 85 len (fun i => .int .u64 (Y i : Int))) (hF : SetsOk ms Y) (hB : Below w.heap.size w wx) (h1 : cb = true → missS Y len < missS X len)
    (h0 : cb = false → missS Y len = missS X len ∧ ∀ q, j + 1 ≤ q → q < len → ∀ r, r < 16 → stepB ms r (fun i => (Y i).testBit r) q = true → (Y q).testBit r = true) (he : s = Y j) (hb : ∀ r, r < 16 → s.testBit r = stepB ms r (fun i => (Y i).testBit r) j) :
    setIn ms len X w j (.bool cb) (.int .i64 ((j : Int) - 1)) wx := by
  refine ⟨Y, cb, _, rfl, rfl, rfl, by omega, Lib.hid hR, Lib.hid hF, Lib.hid hB, Lib.hid h1, Lib.hid fun h => ⟨(h0 h).1, fun q q1 q2 r hr q3 => ?_⟩⟩
  rcases Nat.eq_or_lt_of_le q1 with h4 | h4
  · subst h4; rw [← he, hb r hr]; exact q3
  · exact (h0 h).2 q h4 q2 r hr q3
theorem setIn_end (hlen : ms.length = len) (hR : wx.rowIs w.heap.size 85 len (fun i => .int .u64 (Y i : Int))) (hF : SetsOk ms Y) (hB : Below w.heap.size w wx) (h1 : cb = true → missS Y len < missS X len)
    (h0 : cb = false → missS Y len = missS X len ∧ ∀ q, 0 ≤ q → q < len → ∀ r, r < 16 → stepB ms r (fun i => (Y i).testBit r) q = true → (Y q).testBit r = true) : ∃ q, q < 2 * missS X len + 1 ∧ setOut ms len w q (.bool cb) wx := by
  refine ⟨2 * missS Y len + (if cb then 1 else 0), ?_, Y, cb, rfl, Lib.hid hR, Lib.hid hF, Lib.hid hB, Lib.hid rfl, Lib.hid fun h r hr i hi hs => ?_⟩
  · cases cb
    · have := (h0 rfl).1
      simp
      omega
    · have := h1 rfl
      simp
      omega
  · exact (h0 h).2 i (Nat.zero_le _) (by omega) r hr hs
end

/-- What mac.live comes to. -/
def LivePost (ms : List Mac) (w : World) (e : Ending) (w' : World) : Prop :=
  ∃ (g : Nat) (S : Nat → Nat), e = .returned (.slice (some ⟨g, 0, none⟩) ms.length ms.length) ∧ w'.rowIs g 85 ms.length (fun i => .int .u64 (S i : Nat)) ∧ w.heap.size ≤ g ∧ Below w.heap.size w w' ∧ ∀ i, i < ms.length → HasBits (S i) (fun r => liveB ms r i)
theorem or_next {Y : Nat → Nat} (hY : ∀ i, Bits16 (Y i)) {nl : List Int} {q : Nat} {k : Int} (h : nl[q]? = some k) : bits .or .u64 ((orS Y (nl.take q) : Nat) : Int) ((Y k.toNat : Nat) : Int) = ((orS Y (nl.take (q + 1)) : Nat) : Int) := by
  have h1 := (or_all_bits Y hY (nl.take q)).1
  have h2 := hY k.toNat
  unfold Bits16 at h1 h2
  rw [take_snoc' nl q k h, orS_snoc, u64_or_nat _ _ (by omega) (by omega)]

set_option maxRecDepth 100000 in
set_option maxHeartbeats 4000000 in
theorem live_any (v : Value) (ms : List Mac) (w : World) (hv : MacsAt w w.heap.size v ms) (ht : Tab w) (hok : (checkS ms).1 = 0) :
    Calls Tryd.prog 70 #[v] w (LivePost ms w) := by
  obtain ⟨hl5, hall, ml, hml, hop⟩ := (code_ok_iff ms).1 hok
  have hpos : 0 < ms.length := by have := (List.getElem?_eq_some_iff.1 hml).1; omega
  have HLast : Hid (∀ m, ms[ms.length - 1]? = some m → m.op = 37 ∨ m.op = 45) := Lib.hid fun m hm => by rw [hml] at hm; cases hm; exact hop
  have HT := Lib.hid ht
  obtain ⟨A, c, rfl, h1, h2, h3⟩ := hv
  obtain ⟨b, off, rfl, hbw, hcell⟩ := h3 hpos
  have HC := Lib.hid hcell
  have HF := Lib.hid hall
  clear hcell hall hml hop h3 hok ht
  obtain ⟨len, hlen⟩ : ∃ len, ms.length = len := ⟨_, rfl⟩
  have HL := Lib.hid hlen
  rw [hlen] at h1 h2 hl5 hpos ⊢
  clear hlen
  have hmk := fun W : World => run_make_row' (P := Tryd.prog) 89 85 (.int .u64 0) 8 Tryd.underlying89 infoSet rfl .i64 .i64 len (by omega) (by omega) W
  go_enter Tryd.func70, Tryd.ntmps70
  go_wp2_with fail
  have hrow := World.rowIs_made w (.int .u64 0) len 85
  have hb0 : Below w.heap.size w (w.alloc (.cells (madeCells #[.int .u64 0] len) 85)) := (Below.refl _ _).alloc (Nat.le_refl _) _
  generalize w.alloc (.cells (madeCells #[.int .u64 0] len) 85) = W at *
  have HR0 := Lib.hid hrow
  have HB0 := Lib.hid hb0
  clear hrow hb0 hmk
  go_loopg [4] (2 * missS (fun _ => 0) len + 1) (setOut ms len w)
  case atStart => exact ⟨fun _ => 0, true, rfl, HR0, Lib.hid (sets_none ms), HB0, Lib.hid rfl, Lib.hid (fun h => by cases h)⟩
  case round =>
    obtain ⟨X, bb, rfl, HR, HFd, HB, HG, HS⟩ := hrel
    cases bb
    · go_wp2_with fail
      go_ret
      refine ⟨w.heap.size, X, by rw [HL.out]; rfl, by rw [HL.out]; exact HR.out, Nat.le_refl _, HB.out, fun i hi => ⟨HFd.out.bits i, fun r hr => ?_⟩⟩
      exact found_end (HFd.out.found r hr) (HS.out (by trivial) r hr) i hi
    · go_wp2_with fail
      obtain ⟨wo, hwo⟩ : ∃ wo : World, wo = wr := ⟨_, rfl⟩
      subst hwo
      obtain ⟨go, hgo⟩ : ∃ go, go = gk := ⟨_, rfl⟩
      subst hgo
      clear HS
      go_loopg [4, 5] len (setIn ms len X w)
      case atStart => exact ⟨X, false, _, rfl, rfl, rfl, Nat.le_refl _, HR, HFd, HB, Lib.hid (fun h => by cases h), Lib.hid (fun _ => ⟨rfl, fun j h1 h2 => absurd h2 (by omega)⟩)⟩
      case round =>
        obtain ⟨Y, cb, z, rfl, rfl, hz, hk, HRy, HFy, HBy, HT1, HT0⟩ := hrel
        rcases gk with _ | j
        · have hz1 : z < 0 := by omega
          clear hz
          have HE := Lib.hid (setIn_end HL.out HRy.out HFy.out HBy.out HT1.out HT0.out)
          go_wp2_with fail
          obtain ⟨q, hq, hr⟩ := HE.out
          go_roundg q
          case measure => have := HG.out; simp at this; omega
          case rel => exact hr
        · obtain rfl : z = (j : Int) := by omega
          clear hz
          obtain ⟨⟨op, dst, a, b', n⟩, hm⟩ : ∃ m, ms[j]? = some m := ⟨ms[j]'(by rw [HL.out]; omega), List.getElem?_eq_getElem _⟩
          have Hm := Lib.hid hm
          have hf := HF.out j _ hm
          have Hf := Lib.hid hf
          have hjl : j < len := by omega
          have HSt : Hid (∀ r, stepB ms r (fun i => (Y i).testBit r) j = _) := Lib.hid fun r => step_next (r := r) (X := fun i => (Y i).testBit r) hm hf HLast.out
          have HIn := Lib.hid (next_in hm hf HLast.out)
          have HRg := Lib.hid (regs_of_fault _ _ hf).2
          clear hm hf
          go_wp2_with fail
          refine (Next_any c len j b off op dst a b' n _ (HT.out.own HBy.out) hjl hl5 ((HC.out j _ Hm.out).below HBy.out hbw)).mono ?_
          rintro e w2 ⟨v2, rfl, ho2, hb2⟩
          have HRy := Lib.hid (row_below HRy.out hb2 HRy.out.lt)
          have HBy := Lib.hid (HBy.out.trans (hb2.mono HBy.out.size))
          have hnl := nextL_len ⟨op, dst, a, b', n⟩ j
          obtain ⟨A2, c2, hv2, hl2, _, hc2⟩ := ho2.ints
          subst hv2
          have HN2 := Lib.hid hc2
          clear ho2 hb2 hc2
          obtain ⟨nl, hnlE⟩ : ∃ nl, nextL ⟨op, dst, a, b', n⟩ j = nl := ⟨_, rfl⟩
          have HNl := Lib.hid hnlE
          rw [hnlE] at HIn HN2 hnl hl2 ⊢
          clear hnlE
          obtain ⟨nn, hnn⟩ : ∃ nn, nl.length = nn := ⟨_, rfl⟩
          have HNn := Lib.hid hnn
          rw [hnn] at HN2 hnl hl2 ⊢
          clear hnn
          go_wp2_with fail
          obtain ⟨wo, hwo⟩ : ∃ wo : World, wo = w2 := ⟨_, rfl⟩
          subst hwo
          go_loop [6, 25] (fun bv qv => ∃ q : Nat, q ≤ nn ∧ qv = .int .i64 q ∧ bv = .int .u64 ((orS Y (nl.take q) : Nat) : Int)) (fun _ qv => nn - (intOf qv).toNat)
          case atStart => exact ⟨0, Nat.zero_le _, rfl, rfl⟩
          case round =>
            obtain ⟨q, hq, rfl, rfl⟩ := hrel
            by_cases hlt : q < nn
            · obtain ⟨k, hk⟩ : ∃ k, nl[q]? = some k := ⟨nl[q]'(by rw [HNn.out]; exact hlt), List.getElem?_eq_getElem _⟩
              obtain ⟨b2, off2, hA2, _, hcc⟩ := HN2.out (by omega)
              subst hA2
              have ck := hcc q k hk
              have ⟨hk0, hk1⟩ := HIn.out k (List.mem_of_getElem? hk)
              rw [HL.out] at hk1
              have cY := HRy.out.cell (show k.toNat < len by omega)
              have hor := or_next HFy.out.bits hk
              have Hk := Lib.hid hk
              clear hk hcc
              go_wp2_with fail
              go_round
              case rel => exact ⟨q + 1, by omega, by go_num, rfl⟩
              case measure => simp [intOf]; omega
            · obtain rfl : q = nn := by omega
              have hub := or_all_bits Y HFy.out.bits (nl.take q)
              rw [List.take_of_length_le (by rw [HNn.out]; exact Nat.le_refl _)] at hub ⊢
              generalize orS Y nl = u at *
              have Hub := Lib.hid hub
              have HRk := Lib.hid (set_reckon ⟨op, dst, a, b', n⟩ HRg.out u hub.1)
              clear hub
              go_upto_region 14 with fail
              go_cut [9] (fun s9 wx => s9 = .int .u64 (setS ⟨op, dst, a, b', n⟩ u : Nat) ∧ Hid (Below wo.heap.size wo wx))
              case first =>
                have HBc := HBy
                have HWc := Lib.hid (Below.refl wo.heap.size wo)
                have ⟨c0, c1, c2, c3, c4⟩ := (HC.out j _ Hm.out).below HBc.out hbw
                have hk0 : (0 : Int) ≤ (j : Int) := Int.natCast_nonneg _
                have hk1 : (j : Int) < (len : Int) := by omega
                have hrk := HRk.out
                go_region_held3 (fun w' => w'.cell? ⟨b, off + j * 5, none⟩ = some (.int .i64 op) ∧ w'.cell? ⟨b, off + j * 5 + 1, none⟩ = some (.int .i64 dst) ∧ w'.cell? ⟨b, off + j * 5 + 2, none⟩ = some (.int .i64 a) ∧ w'.cell? ⟨b, off + j * 5 + 3, none⟩ = some (.int .i64 b') ∧ w'.cell? ⟨b, off + j * 5 + 4, none⟩ = some (.int .i64 n)) (go_keep)
                  (first
                    | (go_at_call 67; refine (reads_any op dst a b' n _ ?_ HRg.out).mono ?_; (first | exact HT.out.own HBc.out | exact HT.out.own (below_drew HBc.out)); rintro e w3 ⟨rfl, hb3⟩; have HWc : Hid (Below wo.heap.size wo w3) := Lib.hid (by first | exact HWc.out.trans (hb3.mono HWc.out.size) | exact (below_drew HWc.out).trans (hb3.mono HWc.out.size)); have HBc : Hid (Below w.heap.size w w3) := Lib.hid (by first | exact HBc.out.trans (hb3.mono HBc.out.size) | exact (below_drew HBc.out).trans (hb3.mono HBc.out.size)); have ⟨c0, c1, c2, c3, c4⟩ := (HC.out j _ Hm.out).below HBc.out hbw; clear hb3)
                    | (go_at_call 64; refine (writes_any op dst a b' n _ ?_ HRg.out).mono ?_; (first | exact HT.out.own HBc.out | exact HT.out.own (below_drew HBc.out)); rintro e w3 ⟨rfl, hb3⟩; have HWc : Hid (Below wo.heap.size wo w3) := Lib.hid (by first | exact HWc.out.trans (hb3.mono HWc.out.size) | exact (below_drew HWc.out).trans (hb3.mono HWc.out.size)); have HBc : Hid (Below w.heap.size w w3) := Lib.hid (by first | exact HBc.out.trans (hb3.mono HBc.out.size) | exact (below_drew HBc.out).trans (hb3.mono HBc.out.size)); have ⟨c0, c1, c2, c3, c4⟩ := (HC.out j _ Hm.out).below HBc.out hbw; clear hb3))
                all_goals
                  go_wp2_with fail
                  go_meet
                  first | exact ⟨rfl, HWc⟩ | exact ⟨rfl, Lib.hid (below_drew HWc.out)⟩
              case rest =>
                obtain ⟨rfl, HW⟩ := hcut
                have HRy := Lib.hid (row_below HRy.out HW.out HRy.out.lt)
                have HBy := Lib.hid (HBy.out.trans (HW.out.mono HBy.out.size))
                have ⟨sb1, sb2⟩ := set_bits ⟨op, dst, a, b', n⟩ HRg.out u Hub.out.1
                have HSb : Hid (Bits16 (setS ⟨op, dst, a, b', n⟩ u) ∧ ∀ r, r < 16 → (setS ⟨op, dst, a, b', n⟩ u).testBit r = stepB ms r (fun i => (Y i).testBit r) j) := Lib.hid ⟨sb1, fun r hr => by rw [sb2 r hr, HSt.out r, HNl.out, Hub.out.2 r]⟩
                clear sb1 sb2 HRk HW
                generalize setS ⟨op, dst, a, b', n⟩ u = s at *
                have cy := HRy.out.cell hjl
                have fy := HRy.out.frozen j
                by_cases hne : s = Y j
                · have hb1 : ((s : Int) != (Y j : Int)) = false := by simp [hne]
                  have Hne := Lib.hid hne
                  clear hne
                  go_wp2_with fail
                  go_roundg j
                  case measure => omega
                  case rel => exact setIn_skip hjl HRy.out HFy.out HBy.out HT1.out HT0.out Hne.out HSb.out.2
                · have hb1 : ((s : Int) != (Y j : Int)) = true := by simp; omega
                  have Hne := Lib.hid hne
                  clear hne
                  go_wp2_with fail
                  go_roundg j
                  case measure => omega
                  case rel => exact setIn_store HL.out hjl HRy.out HFy.out HBy.out HT1.out HT0.out Hne.out HSb.out.1 HSb.out.2
end Go.Proofs.YtkecgobbklmeaaaDoor
