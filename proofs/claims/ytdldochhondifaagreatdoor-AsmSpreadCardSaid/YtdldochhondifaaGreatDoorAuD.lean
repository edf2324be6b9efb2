/-
  The statement AsmBack, walked.
  Conditions: the laid start (Std).
-/
import Derived.Test.YtdldochhondifaaGreatDoorAuC
import Derived.Test.YtdldochhondifaaGreatDoorAsI
import Derived.Test.YtdldochhondifaaGreatDoorAtB
import Derived.Test.YtdldochhondifaaGreatDoorRdK
import Derived.Test.YtdldochhondifaaGreatDoorKtC
namespace Go.Proofs.YtdldochhondifaaGreatDoor
open Go.RowKit
attribute [local go_sem] Oper.semAt_some

/-- Without names a line is short. -/
theorem part_len20 {m : Mac} (hm : m.ok) (c : UInt8) : (partL m Lib.itoa c).length ≤ 21 := by
  obtain ⟨_, h1, h2, h3, h4⟩ := hm
  unfold partL
  have e1 := itoa_len h1
  have e2 := itoa_len h2
  have e3 := itoa_len h3
  have e4 := itoa_len h4
  (repeat' split) <;> (try rw [List.length_cons]) <;> omega
theorem piece_len20 {l : List Mac} (hm : ∀ m ∈ l, m.ok) {i : Nat} (hi : i < l.length) (h5 : l.length ≤ 5000) : (pieceL Lib.itoa l i).length ≤ 100 := by
  have hg : l.getD i ⟨0, 0, 0, 0, 0⟩ = l[i] := by rw [List.getD_eq_getElem?_getD, List.getElem?_eq_getElem hi]; rfl
  have hok := hm l[i] (List.getElem_mem hi)
  unfold pieceL
  rw [hg, List.length_append]
  have h1 : (if markL l i = true then labelL i else []).length ≤ 8 := by
    split
    · unfold labelL
      have : (Lib.itoa (i : Int)).length ≤ 4 := by
        unfold Lib.itoa
        rw [if_neg (by omega)]
        exact dec_len 4 _ (by omega) (by omega)
      simp only [List.length_append, List.length_cons, List.length_nil]
      omega
    · simp
  have h2 : (lineL Lib.itoa l[i]).length ≤ 80 := by
    have hj := join_len (sep := [44, 32]) (c := 21) (xs := partsL Lib.itoa l[i]) (fun x hx => by
      unfold partsL at hx
      obtain ⟨c, _, rfl⟩ := List.mem_map.1 hx
      exact part_len20 hok c)
    have h3 : (partsL Lib.itoa l[i]).length ≤ 3 := by unfold partsL; rw [List.length_map]; exact ord_len _
    have h4 : (partsL Lib.itoa l[i]).length * (21 + [44, 32].length) ≤ 3 * (21 + [44, 32].length) := Nat.mul_le_mul_right _ h3
    have h5 : 3 * (21 + ([44, 32] : List UInt8).length) = 69 := rfl
    have hw := word_len (l[i]).op
    unfold lineL
    simp only [List.length_append, List.length_cons, List.length_nil]
    split
    · simp; omega
    · rw [List.length_cons]; omega
  omega
theorem text_len20 {l : List Mac} (hm : ∀ m ∈ l, m.ok) (h5 : l.length ≤ 5000) : ∀ {k : Nat}, k ≤ l.length → (textTo Lib.itoa l k).length ≤ 100 * k
  | 0, _ => by simp [textTo_zero]
  | k + 1, h => by
    rw [textTo_succ, List.length_append]
    have h1 := text_len20 hm h5 (k := k) (by omega)
    have h2 := piece_len20 hm (i := k) (by omega) h5
    omega
theorem text_ne {rt : Int → List UInt8} {l : List Mac} (h : 0 < l.length) : textL rt l ≠ [] := by
  intro e
  have h1 : l.length = (l.length - 1) + 1 := by omega
  unfold textL at e
  rw [h1, textTo_succ, List.append_eq_nil_iff] at e
  have h2 := e.2
  unfold pieceL lineL at h2
  simp at h2
set_option maxRecDepth 100000 in
set_option maxHeartbeats 2000000 in
theorem AsmBack_any (v : Value) (xs : List Int) (w : World) (hv : IntsAt w w.heap.size v xs) (hx : ∀ x ∈ xs, I64 x) (hS : Std w) :
    Calls Tryz.prog 4 #[v] w fun e w' => e = .returned (.bool true) ∧ Below w.heap.size w w' := by
  have HC := Lib.hid (CodeOf_any v xs 40 40 40 w rfl hv hx (by decide) (by decide) (by decide))
  obtain ⟨ms, hms⟩ : ∃ ms, codeOf xs 40 40 = ms := ⟨_, rfl⟩
  have hck : checkS ms = (0, 0) := by rw [← hms]; exact codeOf_ok xs 40 40 (by decide) (by decide)
  have hok : ∀ m ∈ ms, m.ok := by rw [← hms]; exact codeOf_i64 xs 40 40 (by decide) ⟨by decide, by decide⟩ hx (by decide)
  have hlen : ms.length ≤ 41 ∧ 0 < ms.length := by rw [← hms, codeOf_len]; omega
  have Hms := Lib.hid hms
  rw [hms] at HC
  have htl := text_len20 hok (by omega) (Nat.le_refl ms.length)
  have hrd : readP (textL Lib.itoa ms) = (ms, (0, 0)) := read_text (by rw [hck]) hok (Spread.self _) (by unfold textL; omega)
  have htx : txtF ms = textL Lib.itoa ms := by unfold txtF; rw [hck, if_pos rfl]
  have hne := text_ne (rt := Lib.itoa) hlen.2
  obtain ⟨t, ht⟩ : ∃ t, textL Lib.itoa ms = t := ⟨_, rfl⟩
  have hl2 : t.length ≤ 9223372036854775807 := by rw [← ht]; unfold textL; omega
  rw [ht] at hrd hne htx
  have HS := Lib.hid hS
  have Hck := Lib.hid hck
  have Hok := Lib.hid hok
  have Hrd := Lib.hid hrd
  have Htx := Lib.hid htx
  have q1 : ¬ (mkS t).toList = [] := by rw [mkS_toList]; exact hne
  have q2 : ((mkS t).toList == []) = false := beq_false_of_ne q1
  have q3 : (mkS t).toList.isEmpty = false := by rw [mkS_toList]; cases t with | nil => exact absurd rfl hne | cons a l => rfl
  have q4 : ((mkS t).toList != []) = true := by rw [bne_iff_ne]; exact q1
  have Hl2 := Lib.hid hl2
  clear hv hx hS hms hck hok hlen htl hrd htx hne ht hl2
  go_enter Tryz.func4, Tryz.ntmps4
  go_wp2_with fail
  refine HC.out.mono ?_
  rintro e W1 ⟨v1, rfl, ho1, hb1⟩
  have HB1 := Lib.hid hb1
  have HO1 := Lib.hid ho1
  have HT := Lib.hid (Text_any v1 ms W1 ho1.macs Hok.out (HS.out.own hb1).tab (HS.out.own hb1).pow (HS.out.own hb1).wrd)
  rw [Hck.out, Htx.out] at HT
  clear hb1 ho1 HC
  go_wp2_with fail
  refine HT.out.mono ?_
  rintro e W2 ⟨rfl, hb2⟩
  have HB3 : Hid (Below w.heap.size w (W2.alloc (.cells #[.int .i64 0, .int .i64 0] 24))) := Lib.hid ((HB1.out.trans (hb2.mono HB1.out.size)).alloc (Nat.le_trans HB1.out.size hb2.size) _)
  have HF3 : Hid (Blk (W2.alloc (.cells #[.int .i64 0, .int .i64 0] 24)) W2.heap.size 24 #[.int .i64 0, .int .i64 0]) := Lib.hid (Blk.new _ _ _)
  have HO3 : Hid (OwnMacs (W2.alloc (.cells #[.int .i64 0, .int .i64 0] 24)) w.heap.size v1 ms) := Lib.hid (World.ownsRow.alloc (HO1.out.below hb2 rfl) _)
  clear hb2 HT HO1
  go_upto_region 3 with fail
  generalize W2.alloc (.cells #[.int .i64 0, .int .i64 0] 24) = W3 at *
  generalize W2.heap.size = g3 at *
  have HR := Lib.hid (AsmRead_any t Hl2.out W3 (HS.out.own HB3.out))
  rw [Hrd.out] at HR
  go_wp2_with fail
  refine HR.out.mono ?_
  rintro e W4 ⟨⟨v2, rfl, ho2⟩, hb4⟩
  have hz := HB3.out.size
  have HB5 : Hid (Below w.heap.size w (W4.alloc (.cells #[.int .i64 0, .int .i64 0] 24))) := Lib.hid ((HB3.out.trans (hb4.mono hz)).alloc (Nat.le_trans hz hb4.size) _)
  have HF5 := Lib.hid ((HF3.out.below hb4 HF3.out.lt).alloc (.cells #[.int .i64 0, .int .i64 0] 24))
  have HG5 : Hid (Blk (W4.alloc (.cells #[.int .i64 0, .int .i64 0] 24)) W4.heap.size 24 #[.int .i64 0, .int .i64 0]) := Lib.hid (Blk.new _ _ _)
  have HV5 : Hid (OwnMacs (W4.alloc (.cells #[.int .i64 0, .int .i64 0] 24)) w.heap.size v1 ms) := Lib.hid (World.ownsRow.alloc (HO3.out.below hb4 rfl) _)
  have HU5 : Hid (OwnMacs (W4.alloc (.cells #[.int .i64 0, .int .i64 0] 24)) W3.heap.size v2 ms) := Lib.hid (World.ownsRow.alloc ho2 _)
  clear hb4 hz ho2 HR HB3 HF3 HO3
  go_upto_region 4 with fail
  generalize W4.alloc (.cells #[.int .i64 0, .int .i64 0] 24) = W5 at *
  generalize W4.heap.size = g5 at *
  have HSm := Lib.hid (SameMacs_any v2 v1 ms ms W5 HU5.out.macs HV5.out.macs)
  have x0 := HF5.out.cell 0
  have y0 := HG5.out.cell 0
  go_wp2_with fail
  refine HSm.out.mono ?_
  rintro e W6 ⟨rfl, hb6⟩
  have HB6 := Lib.hid (HB5.out.trans (hb6.mono HB5.out.size))
  rw [show (decide True : Bool) = true from rfl]
  clear hb6 HSm
  go_wp2_with fail
  go_ret
  exact ⟨rfl, HB6.out⟩
end Go.Proofs.YtdldochhondifaaGreatDoor
