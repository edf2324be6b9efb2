/-
  The law BytesBack walks to true.
  Conditions: the slices read as numbers of Go's int; the table shapes lies as its initialiser lays it.
-/
import Derived.Test.YtliampeaecgagaaDoorRdM
namespace Go.Proofs.YtliampeaecgagaaDoor
open Go.RowKit

theorem numS_bytes : ∀ (n : Nat), BytesOk (numS n) := by
  intro n
  induction n using Nat.strongRecOn with
  | _ n ih =>
    by_cases h : n < 128
    · rw [numS_small n h]
      intro x hx
      rw [List.mem_singleton.1 hx]
      omega
    · rw [numS_big n h]
      intro x hx
      rcases List.mem_cons.1 hx with rfl | hx
      · omega
      · exact ih (n / 128) (by omega) x hx
theorem pack_bytes : ∀ (rs : List Int), (∀ x ∈ rs, 0 ≤ x ∧ x < 16) → BytesOk (packS rs)
  | [], _ => fun x hx => by cases hx
  | [x], h => fun y hy => by
    have := h x (by simp)
    rw [List.mem_singleton.1 hy]
    omega
  | x :: y :: l, h => fun z hz => by
    have hx := h x (by simp)
    have hy := h y (by simp)
    rcases List.mem_cons.1 hz with rfl | hz
    · omega
    · exact pack_bytes l (fun a ha => h a (by simp [ha])) z hz
theorem codeS_bytes {m : Mac} (h : Fine m) : BytesOk (codeS m) := by
  intro x hx
  unfold codeS at hx
  rcases List.mem_cons.1 hx with rfl | hx
  · have := (isOp_iff _).1 h.op
    omega
  · rcases List.mem_append.1 hx with hx | hx
    · exact pack_bytes _ (regs_in m h.regs) x hx
    · split at hx
      · cases hx
      · exact numS_bytes _ x hx
theorem codeL_bytes {ms : List Mac} (h : (checkS ms).1 = 0) (hi : ∀ m ∈ ms, m.ok) : BytesOk (codeL ms) := by
  have hf := (fine_of_check h hi).2
  intro x hx
  unfold codeL at hx
  rw [if_pos h] at hx
  unfold bytesS at hx
  obtain ⟨l, hl, hx⟩ := List.mem_flatten.1 hx
  obtain ⟨m, hm, rfl⟩ := List.mem_map.1 hl
  exact codeS_bytes (hf m hm) x hx
theorem codeL_pos {ms : List Mac} (h : (checkS ms).1 = 0) : 0 < (codeL ms).length := by
  obtain ⟨_, _, m, hm, _⟩ := (code_ok_iff ms).1 h
  unfold codeL
  rw [if_pos h]
  cases ms with
  | nil => simp at hm
  | cons a l =>
    have := codeS_pos a
    rw [bytesS_cons, List.length_append]
    omega
theorem fault_obj (w1 : World) (B : Nat) (hB : B ≤ w1.heap.size) (w : World) (h : Below B w w1) (a b : Int) : Below B w (w1.alloc (.cells #[.int .i64 a, .int .i64 b] 25)) := h.alloc hB _
set_option maxRecDepth 100000 in
set_option maxHeartbeats 2000000 in
theorem BytesBack_any (v u : Value) (xs ys : List Int) (w : World) (hv : IntsAt w w.heap.size v xs) (hu : IntsAt w w.heap.size u ys) (hx : ∀ x ∈ xs, I64 x) (hy : ∀ x ∈ ys, I64 x) (ht : Tab w) :
    Calls Tryd.prog 4 #[v, u] w fun e w' => e = .returned (.bool true) ∧ Below w.heap.size w w' := by
  have HT := Lib.hid ht
  have HU := Lib.hid hu
  have HC1 := Lib.hid (CodeOf_any v xs 40 40 40 w rfl hv hx (by omega) (by omega) (by omega))
  have HC2 : Hid (∀ W, Below w.heap.size w W → Calls Tryd.prog 20 #[u, .int .i64 40, .int .i64 40] W fun e w' => ∃ v', e = .returned v' ∧ OwnMacs w' W.heap.size v' (codeOf ys 40 40) ∧ Below W.heap.size W w') :=
    Lib.hid fun W hW => CodeOf_any u ys 40 40 40 W rfl ((HU.out.below hW (Nat.le_refl _)).more hW.size) hy (by omega) (by omega) (by omega)
  have hok1 := codeOf_ok xs 40 40 (by omega) (by omega)
  have hok2 := codeOf_ok ys 40 40 (by omega) (by omega)
  have hi1 := codeOf_i64 xs 40 40 (by omega) (by unfold I64; omega) hx (by omega)
  have hi2 := codeOf_i64 ys 40 40 (by omega) (by unfold I64; omega) hy (by omega)
  have hlen := codeOf_len xs 40 40
  generalize codeOf xs 40 40 = l at *
  generalize codeOf ys 40 40 = m at *
  have HI1 := Lib.hid hi1
  have HI2 := Lib.hid hi2
  have HK1 := Lib.hid hok1
  have HK2 := Lib.hid hok2
  have HBo : Hid (BytesOk (codeL l)) := Lib.hid (codeL_bytes (by rw [hok1]) hi1)
  have HBm : Hid (BytesOk (codeL m)) := Lib.hid (codeL_bytes (by rw [hok2]) hi2)
  have hpos : 0 < (codeL l).length := codeL_pos (by rw [hok1])
  have HRd : Hid (readL (codeL l) = ((0, 0), l)) := Lib.hid (read_codeL (by rw [hok1]) hi1)
  have HInj : Hid (codeL l = codeL m → l = m) := Lib.hid fun h => codeL_inj (by rw [hok1]) (by rw [hok2]) hi1 hi2 h
  clear hv hu hx hy ht hok1 hok2 hi1 hi2 hlen
  go_enter Tryd.func4, Tryd.ntmps4
  go_wp2_with fail
  refine HC1.out.mono ?_
  rintro e w1 ⟨v1, rfl, ho1, hb1⟩
  have HM1 := Lib.hid ho1.macs
  have HB1 := Lib.hid hb1
  clear ho1 hb1
  go_wp2_with fail
  refine (HC2.out _ HB1.out).mono ?_
  rintro e w2 ⟨v2, rfl, ho2, hb2⟩
  have HM2 := Lib.hid ho2.macs
  have HB2 := Lib.hid (HB1.out.trans (hb2.mono HB1.out.size))
  replace HM1 := Lib.hid ((HM1.out.below hb2 (Nat.le_refl _)).more hb2.size)
  clear ho2 hb2
  go_wp2_with fail
  have hc := Code_any v1 l w2 HM1.out (HT.out.own HB2.out) HI1.out
  rw [HK1.out] at hc
  refine hc.mono ?_
  rintro e w3 ⟨v3, rfl, ho3, hb3⟩
  have HO3 := Lib.hid (ho3.below ((Below.refl w3.heap.size _).alloc (Nat.le_refl _) (.cells #[.int .i64 0, .int .i64 0] 25)) (Nat.le_refl _))
  replace HO3 := Lib.hid (HO3.out.more (show w3.heap.size ≤ (w3.alloc (.cells #[.int .i64 0, .int .i64 0] 25)).heap.size by simp))
  have hb3' := hb3.alloc hb3.size (.cells #[.int .i64 0, .int .i64 0] 25)
  replace HM1 := Lib.hid ((HM1.out.below hb3' (Nat.le_refl _)).more hb3'.size)
  replace HM2 := Lib.hid ((HM2.out.below hb3' (Nat.le_refl _)).more hb3'.size)
  have HB3 := Lib.hid (HB2.out.trans (hb3'.mono HB2.out.size))
  have HF3 := Lib.hid (Blk.new w3 25 #[.int .i64 0, .int .i64 0])
  clear ho3 hb3 hb3' hc
  go_wp2_with fail
  generalize w3.heap.size = g3 at *
  generalize w3.alloc (.cells #[.int .i64 0, .int .i64 0] 25) = W3 at *
  have hc := Code_any v2 m W3 HM2.out (HT.out.own HB3.out) HI2.out
  rw [HK2.out] at hc
  refine hc.mono ?_
  rintro e w4 ⟨v4, rfl, ho4, hb4⟩
  have hb4' := hb4.alloc hb4.size (.cells #[.int .i64 0, .int .i64 0] 25)
  have HO4 := Lib.hid ((ho4.below ((Below.refl w4.heap.size _).alloc (Nat.le_refl _) (.cells #[.int .i64 0, .int .i64 0] 25)) (Nat.le_refl _)).more (show w4.heap.size ≤ (w4.alloc (.cells #[.int .i64 0, .int .i64 0] 25)).heap.size by simp))
  replace HO3 := Lib.hid ((HO3.out.below hb4' (Nat.le_refl _)).more hb4'.size)
  replace HM1 := Lib.hid ((HM1.out.below hb4' (Nat.le_refl _)).more hb4'.size)
  replace HM2 := Lib.hid ((HM2.out.below hb4' (Nat.le_refl _)).more hb4'.size)
  have HB4 := Lib.hid (HB3.out.trans (hb4'.mono HB3.out.size))
  replace HF3 := Lib.hid (HF3.out.below hb4' HF3.out.lt)
  have HF4 := Lib.hid (Blk.new w4 25 #[.int .i64 0, .int .i64 0])
  clear ho4 hb4 hb4' hc
  go_wp2_with fail
  generalize w4.heap.size = g4 at *
  generalize w4.alloc (.cells #[.int .i64 0, .int .i64 0] 25) = W4 at *
  have hc := Read_any v3 (codeL l) W4 HO3.out HBo.out (HT.out.own HB4.out)
  rw [HRd.out] at hc
  refine hc.mono ?_
  rintro e w5 ⟨v5, rfl, ho5, hb5⟩
  have hb5' := hb5.alloc hb5.size (.cells #[.int .i64 0, .int .i64 0] 25)
  have HX := Lib.hid ((ho5.below ((Below.refl w5.heap.size _).alloc (Nat.le_refl _) (.cells #[.int .i64 0, .int .i64 0] 25)) (Nat.le_refl _)).more (show w5.heap.size ≤ (w5.alloc (.cells #[.int .i64 0, .int .i64 0] 25)).heap.size by simp))
  replace HO4 := Lib.hid ((HO4.out.below hb5' (Nat.le_refl _)).more hb5'.size)
  replace HO3 := Lib.hid ((HO3.out.below hb5' (Nat.le_refl _)).more hb5'.size)
  replace HM1 := Lib.hid ((HM1.out.below hb5' (Nat.le_refl _)).more hb5'.size)
  replace HM2 := Lib.hid ((HM2.out.below hb5' (Nat.le_refl _)).more hb5'.size)
  have HB5 := Lib.hid (HB4.out.trans (hb5'.mono HB4.out.size))
  replace HF3 := Lib.hid (HF3.out.below hb5' HF3.out.lt)
  replace HF4 := Lib.hid (HF4.out.below hb5' HF4.out.lt)
  have HF5 := Lib.hid (Blk.new w5 25 #[.int .i64 0, .int .i64 0])
  clear ho5 hb5 hb5' hc
  go_wp2_with fail
  generalize w5.heap.size = g5 at *
  generalize w5.alloc (.cells #[.int .i64 0, .int .i64 0] 25) = W5 at *
  have q3 := HF3.out.cell 0
  have q4 := HF4.out.cell 0
  have q5 := HF5.out.cell 0
  have hx1 := fun n => conv_bytes (w := W5.drewN n) (B := W5.heap.size) HO3.out
  have hx2 := fun n => conv_bytes (w := W5.drewN n) (B := W5.heap.size) HO4.out
  obtain ⟨A3, c3, hv3, _⟩ := HO3.out
  subst hv3
  have HS1 : Hid (∀ n, Calls Tryd.prog 19 #[v5, v1] (W5.drewN n) fun e w' => e = .returned (.bool true) ∧ ∃ m, w' = (W5.drewN n).drewN m) := Lib.hid fun n => by
    have := SameMacs_quiet v5 v1 l l (W5.drewN n) HX.out HM1.out
    simpa using this
  have hds : ((strOfNums (codeL l)).toList == (strOfNums (codeL m)).toList) = decide (l = m) := by
    by_cases h : l = m
    · subst h
      simp
    · rw [decide_eq_false h, Bool.eq_false_iff]
      intro hh
      rw [beq_iff_eq, ByteArray.toList_eq, ByteArray.toList_eq] at hh
      exact h (HInj.out (str_inj HBo.out HBm.out (ByteArray.ext (Array.ext' hh))))
  have HS2 : Hid (∀ n, Calls Tryd.prog 19 #[v1, v2] (W5.drewN n) fun e w' => e = .returned (.bool (decide (l = m))) ∧ ∃ m, w' = (W5.drewN n).drewN m) := Lib.hid fun n => SameMacs_quiet v1 v2 l m (W5.drewN n) HM1.out HM2.out
  obtain ⟨A1, c1, hv1, _⟩ := HM1.out
  subst hv1
  generalize decide (l = m) = bq at *
  clear HInj HRd
  go_quiet ((first | (go_at_call_of 19 v5; exact Calls.quiet_of (HS1.out _)) | (go_at_call_of 19 (Value.slice A1 l.length c1); exact Calls.quiet_of (HS2.out _))))
  go_wp2_with fail
  go_ret
  exact ⟨ret_bool (by cases bq <;> simp), below_drewN HB5.out _⟩
end Go.Proofs.YtliampeaecgagaaDoor
