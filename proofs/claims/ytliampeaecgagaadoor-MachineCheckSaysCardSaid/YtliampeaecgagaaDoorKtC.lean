/-
  Contract of turnerykit's CodeOf: code of raw numbers.
  Conditions: the slice reads as numbers of Go's int; small bounds.
-/
import Derived.Test.YtliampeaecgagaaDoorKtB
import Derived.Deep.RegionHeld3
import Derived.Deep.DrawnRows
import Derived.Deep.AppendLies
namespace Go.Proofs.YtliampeaecgagaaDoor
open Go.RowKit
attribute [local go_sem ↓] Go.wp_at_zero Go.wp_at_succ

/-- The first k instructions of the code. -/
def codeTo (l : List Int) (M : Nat) (routines : Int) (k : Nat) : List Mac := (List.range k).map fun i => macOf (l.getD (3 * i) 0) (l.getD (3 * i + 1) 0) (l.getD (3 * i + 2) 0) ((M : Nat) + 1) routines
theorem codeTo_succ (l : List Int) (M : Nat) (routines : Int) (k : Nat) : codeTo l M routines (k + 1) = codeTo l M routines k ++ [macOf (l.getD (3 * k) 0) (l.getD (3 * k + 1) 0) (l.getD (3 * k + 2) 0) ((M : Nat) + 1) routines] := by
  unfold codeTo
  rw [List.range_succ, List.map_append]
  rfl
theorem codeTo_len (l : List Int) (M : Nat) (routines : Int) (k : Nat) : (codeTo l M routines k).length = k := by unfold codeTo; simp
theorem codeOf_to (l : List Int) (n : Nat) (routines : Int) : codeOf l n routines = codeTo l (min (l.length / 3) n) routines (min (l.length / 3) n) ++ [⟨45, 0, 0, 0, 0⟩] := rfl
theorem getD_get {l : List Int} {i : Nat} (h : i < l.length) : l[i]? = some (l.getD i 0) := by
  rw [List.getD_eq_getElem?_getD, List.getElem?_eq_getElem h]
  rfl

set_option maxRecDepth 100000 in
set_option maxHeartbeats 4000000 in
theorem CodeOf_any (v : Value) (xs : List Int) (n : Nat) (nz routines : Int) (w : World) (hnz : nz = n) (hv : IntsAt w w.heap.size v xs) (hx : ∀ x ∈ xs, I64 x) (hn : n ≤ 1000) (hr : 0 ≤ routines) (hr2 : routines ≤ 1000) :
    Calls Tryd.prog 20 #[v, .int .i64 nz, .int .i64 routines] w fun e w' => ∃ v', e = .returned v' ∧ OwnMacs w' w.heap.size v' (codeOf xs n routines) ∧ Below w.heap.size w w' := by
  subst hnz
  obtain ⟨i0, hi, hz0, hz1, hz2⟩ := info_parts infoMac
  have HX := Lib.hid hx
  obtain ⟨A, c, rfl, hl, hc63, hcell⟩ := hv
  have HC := Lib.hid hcell
  have HPE : Hid (∀ v' (w' : World), OwnMacs w' w.heap.size v' (codeOf xs n routines) → Below w.heap.size w w' → ∃ v'', Ending.returned v' = .returned v'' ∧ OwnMacs w' w.heap.size v'' (codeOf xs n routines) ∧ Below w.heap.size w w') :=
    Lib.hid fun v w' h1 h2 => ⟨v, rfl, h1, h2⟩
  obtain ⟨M, hM⟩ : ∃ M, min (xs.length / 3) n = M := ⟨_, rfl⟩
  have HM := Lib.hid hM
  have hM1 : M ≤ n := by omega
  have hM2 : 3 * M ≤ xs.length := by omega
  have HCase : Hid ((n < xs.length / 3 ∧ M = n) ∨ (¬ n < xs.length / 3 ∧ M = xs.length / 3)) := Lib.hid (by omega)
  clear hx hcell hM
  obtain ⟨len, hlen⟩ : ∃ len, xs.length = len := ⟨_, rfl⟩
  have HL := Lib.hid hlen
  rw [hlen] at hl HC HCase hM2 ⊢
  clear hlen
  go_enter Tryd.func20, Tryd.ntmps20
  go_upto_if 15 with fail
  go_cut [7] (fun s wx => s = .int .i64 (M : Int) ∧ wx = w)
  case first =>
    rcases HCase.out with ⟨hlt3, hMe⟩ | ⟨hlt3, hMe⟩
    all_goals
      have HMe := Lib.hid hMe
      clear hMe
      go_wp2_with fail
      go_meet
      refine ⟨?_, rfl⟩
      rw [HMe.out]
      try (first | rfl | (congr 1; omega))
  case rest =>
    obtain ⟨rfl, rfl⟩ := hcut
    go_wp2_with fail
    go_loopw [8, 9] (fun v i wr => ∃ k : Nat, k ≤ M ∧ i = .int .i64 k ∧ Hid (Below wc.heap.size wc wr) ∧ Hid (OwnMacs wr wc.heap.size v (codeTo xs M routines k))) (fun _ i _ => M - (intOf i).toNat)
    case atStart => exact ⟨0, Nat.zero_le _, rfl, Lib.hid (Below.refl _ _), Lib.hid (OwnMacs.nil _ _)⟩
    case round =>
      obtain ⟨k, hk, rfl, HB, HO⟩ := hrel
      by_cases hlt : k < M
      · obtain ⟨b, off, hA, hbw, hcc⟩ := HC.out (by omega)
        subst hA
        have cell : ∀ j, j < len → wr.cell? ⟨b, off + j, none⟩ = some (.int .i64 (xs.getD j 0)) ∧ I64 (xs.getD j 0) := fun j hj =>
          ⟨(bcell HB.out hbw).trans (hcc j _ (getD_get (by rw [HL.out]; exact hj))), HX.out _ (List.mem_of_getElem? (getD_get (l := xs) (i := j) (by rw [HL.out]; exact hj)))⟩
        obtain ⟨x0, hx0⟩ : ∃ x, xs.getD (3 * k) 0 = x := ⟨_, rfl⟩
        obtain ⟨x1, hx1⟩ : ∃ x, xs.getD (3 * k + 1) 0 = x := ⟨_, rfl⟩
        obtain ⟨x2, hx2⟩ : ∃ x, xs.getD (3 * k + 2) 0 = x := ⟨_, rfl⟩
        have d0 := cell (3 * k) (by omega)
        have d1 := cell (3 * k + 1) (by omega)
        have d2 := cell (3 * k + 2) (by omega)
        rw [hx0] at d0
        rw [hx1] at d1
        rw [hx2] at d2
        have Hxs := Lib.hid (And.intro hx0 (And.intro hx1 hx2))
        obtain ⟨d0, i0'⟩ := d0
        obtain ⟨d1, i1'⟩ := d1
        obtain ⟨d2, i2'⟩ := d2
        have HI := Lib.hid (And.intro i0' (And.intro i1' i2'))
        have hcl : (codeTo xs M routines k).length ≤ 1000 := by rw [codeTo_len]; omega
        obtain ⟨⟨op, dst, a, b', nn⟩, hmac⟩ : ∃ m, macOf x0 x1 x2 ((M : Nat) + 1) routines = m := ⟨_, rfl⟩
        have HMac : Hid (∀ W : World, Calls Tryd.prog 38 #[.int .i64 x0, .int .i64 x1, .int .i64 x2, .int .i64 ((M : Int) + 1), .int .i64 routines] W fun e w' => e = .returned (.agg #[.int .i64 op, .int .i64 dst, .int .i64 a, .int .i64 b', .int .i64 nn]) ∧ Below W.heap.size W w') := Lib.hid fun W => by
          have := MacOf_any x0 x1 x2 ((M : Int) + 1) routines W i0' i1' i2' (by omega) (by omega) hr (by omega)
          rw [hmac] at this
          exact this
        have Hmac := Lib.hid hmac
        have hz := HB.out.size
        have hw1 : IntKind.i64.wrap (3 * (k : Int)) = 3 * (k : Int) := by rw [IntKind.wrap_i64]; omega
        have hw2 : IntKind.i64.wrap (3 * (k : Int) + 1) = 3 * (k : Int) + 1 := by rw [IntKind.wrap_i64]; omega
        have hw3 : IntKind.i64.wrap (3 * (k : Int) + 2) = 3 * (k : Int) + 2 := by rw [IntKind.wrap_i64]; omega
        have hw4 : IntKind.i64.wrap ((M : Int) + 1) = (M : Int) + 1 := by rw [IntKind.wrap_i64]; omega
        have ht1 : (3 * (k : Int)).toNat = 3 * k := by omega
        have ht2 : (3 * (k : Int) + 1).toNat = 3 * k + 1 := by omega
        have ht3 : (3 * (k : Int) + 2).toNat = 3 * k + 2 := by omega
        have hi1 : (0 : Int) ≤ 3 * (k : Int) := by omega
        have hi2 : 3 * (k : Int) < (len : Int) := by omega
        have hi3 : (0 : Int) ≤ 3 * (k : Int) + 1 := by omega
        have hi4 : 3 * (k : Int) + 1 < (len : Int) := by omega
        have hi5 : (0 : Int) ≤ 3 * (k : Int) + 2 := by omega
        have hi6 : 3 * (k : Int) + 2 < (len : Int) := by omega
        clear cell hcc hx0 hx1 hx2 i0' i1' i2' hmac
        go_upto_region 8 with fail
        go_region_held3 (fun w' => w'.cell? ⟨b, off + 3 * k, none⟩ = some (.int .i64 x0) ∧ w'.cell? ⟨b, off + (3 * k + 1), none⟩ = some (.int .i64 x1) ∧ w'.cell? ⟨b, off + (3 * k + 2), none⟩ = some (.int .i64 x2)) (first | go_keep | (go_split_ands; refine ⟨?_, ?_, ?_⟩ <;> assumption))
          (first
            | (go_at_call 38; refine (HMac.out _).mono ?_; rintro e w3 ⟨rfl, hb3⟩; have HO3 := Lib.hid (OwnMacs.below (w := wr.drew) HO.out hb3 rfl); have HB3 := Lib.hid ((below_drew HB.out).trans (hb3.mono hz)); have hz3 : wc.heap.size ≤ w3.heap.size := HB3.out.size; have d0 := (bcell hb3 (show b < wr.heap.size by omega)).trans d0; have d1 := (bcell hb3 (show b < wr.heap.size by omega)).trans d1; have d2 := (bcell hb3 (show b < wr.heap.size by omega)).trans d2; clear hb3)
            | (refine step_append_lies _ (by rfl) (.tmp 22) (.tmp 44) 23 (by rfl) wc.heap.size 36 i0 _ 5 40 Tryd.underlying23 hi hz0 hz1 hz2 rfl (by decide) u8 (codeTo xs M routines k).length (cellsS (codeTo xs M routines k)) (by rfl) (World.ownsRow.alloc HO3.out _) ⟨w3.heap.size, 0, none⟩ 1 1 [.int .i64 op, .int .i64 dst, .int .i64 a, .int .i64 b', .int .i64 nn] (by rfl) (by rfl) (cells_new w3 [.int .i64 op, .int .i64 dst, .int .i64 a, .int .i64 b', .int .i64 nn] 36 w3.heap.size rfl) (cells_one ⟨op, dst, a, b', nn⟩) (by omega) (by unfold maxLen; omega) (by omega) (by simp; omega) (w3.heap.size + 1) (by simp) ?_; intro g4 cap4 w4 hown4 hgrow4 hat4 hlt4; have HO4 := Lib.hid hown4; have HB4 : Hid (Below wc.heap.size wc w4) := Lib.hid ((HB3.out.alloc hz3 _).grown hgrow4 (by simp; omega) (own_block_ge HO3.out)); have hb4 : Below wc.heap.size w3 w4 := ((Below.refl _ w3).alloc hz3 _).grown hgrow4 (by simp; omega) (own_block_ge HO3.out); have d0 := (bcell hb4 hbw).trans d0; have d1 := (bcell hb4 hbw).trans d1; have d2 := (bcell hb4 hbw).trans d2; clear hb4 hown4 hat4))
        all_goals
          go_wp2_with fail
          go_roundw
          case rel =>
            refine ⟨k + 1, by omega, by go_num, HB4, Lib.hid ?_⟩
            rw [codeTo_succ, Hxs.out.1, Hxs.out.2.1, Hxs.out.2.2, Hmac.out]
            exact OwnMacs.snoc (m := ⟨op, dst, a, b', nn⟩) HO4.out
          case measure => simp [intOf]; omega
      · obtain rfl : k = M := by omega
        go_wp2_with (at_builtin; refine app_one rfl _ _ 23 36 rfl (.agg #[.int .i64 0, .int .i64 0, .int .i64 0, .int .i64 0, .int .i64 0]) 5 40 Tryd.underlying23 infoMac rfl (by decide) (by decide) wc.heap.size u8 _ _ (by rfl) HO.out _ [.int .i64 45, .int .i64 0, .int .i64 0, .int .i64 0, .int .i64 0] (by rfl) rfl (fun x hx => by simp at hx; rcases hx with rfl | rfl <;> rfl) rfl (by rw [codeTo_len]; omega) HB.out.size ?_; intro v4 w4 HA4)
        go_ret
        refine HPE.out _ _ ?_ (HB.out.trans HA4.out.below)
        rw [codeOf_to, HM.out]
        exact OwnMacs.snoc (m := ⟨45, 0, 0, 0, 0⟩) HA4.out.own
end Go.Proofs.YtliampeaecgagaaDoor
