/-
  The law BytesParts walks to true.
  Conditions: the slice reads as numbers of Go's int; the table shapes lies as its initialiser lays it.
-/
import Derived.Test.YtkecgobbklmeaaaDoorKtC
import Derived.Test.YtkecgobbklmeaaaDoorByJ
namespace Go.Proofs.YtkecgobbklmeaaaDoor
open Go.RowKit

/-- Does an instruction go nowhere else? -/
def noT (m : Mac) : Bool := !hasS (fldS m.op) 116
theorem fault_many {m : Mac} {many many' : Int} (h : faultS m many = 0) (ht : hasS (fldS m.op) 116 = false) : faultS m many' = 0 := by
  obtain ⟨ho, hr, h1, h2, h3, hn⟩ := (fault_zero m many).1 h
  refine (fault_zero m many').2 ⟨ho, hr, h1, h2, h3, ?_⟩
  rcases (fld_cases _ ho).2 with ⟨_, _, _, _, e⟩ | ⟨_, e2, _⟩ | ⟨_, _, _, _, e⟩ | ⟨_, _, _, _, e⟩ | ⟨_, _, _, _, e⟩
  · rw [e] at hn ⊢; exact hn
  · rw [e2] at ht; cases ht
  · rw [e] at hn ⊢; exact hn
  · rw [e] at hn ⊢; exact hn
  · rw [e] at hn ⊢; exact hn
def retM : Mac := ⟨45, 0, 0, 0, 0⟩
theorem ret_fault (many : Int) : faultS retM many = 0 := by
  have h2 : shD 45 = false ∧ shA 45 = false ∧ shB 45 = false ∧ shK 45 = 0 := by decide +kernel
  rw [fault_zero]
  refine ⟨show isOp 45 = true by decide, ⟨fun h => ?_, fun h => ?_, fun h => ?_⟩, fun _ => rfl, fun _ => rfl, fun _ => rfl, ?_⟩
  · rw [show shD retM.op = shD 45 from rfl, h2.1] at h; cases h
  · rw [show shA retM.op = shA 45 from rfl, h2.2.1] at h; cases h
  · rw [show shB retM.op = shB 45 from rfl, h2.2.2.1] at h; cases h
  · rw [show shK retM.op = shK 45 from rfl, h2.2.2.2]; rfl
theorem ret_code : codeS retM = [45] := by
  have h2 : shD 45 = false ∧ shA 45 = false ∧ shB 45 = false ∧ shK 45 = 0 := by decide +kernel
  obtain ⟨b1, b2, b3, b4⟩ := h2
  simp [retM, codeS, regsS, b1, b2, b3, b4, packS]
theorem pair_ok {m : Mac} {many : Int} (h : faultS m many = 0) (ht : hasS (fldS m.op) 116 = false) : checkS [m, retM] = (0, 0) := by
  apply check_zero
  rw [code_ok_iff]
  refine ⟨by simp, fun j x hx => ?_, retM, rfl, .inr rfl⟩
  match j, hx with
  | 0, hx => cases hx; exact fault_many h ht
  | 1, hx => cases hx; exact ret_fault _
  | j + 2, hx => simp at hx
theorem pair_len {m : Mac} {many : Int} (h : faultS m many = 0) (ht : hasS (fldS m.op) 116 = false) : (codeL [m, retM]).length = (codeS m).length + 1 := by
  unfold codeL
  rw [pair_ok h ht, if_pos rfl]
  unfold bytesS
  simp [ret_code]
theorem bytes_snoc (l : List Mac) (m : Mac) : bytesS (l ++ [m]) = bytesS l ++ codeS m := by unfold bytesS; rw [List.map_append, List.flatten_append]; simp
/-- Those of the first k that go nowhere else. -/
def ownTo (l : List Mac) (k : Nat) : List Mac := (l.take k).filter noT
theorem ownTo_succ (l : List Mac) (k : Nat) (m : Mac) (h : l[k]? = some m) : ownTo l (k + 1) = if noT m then ownTo l k ++ [m] else ownTo l k := by
  unfold ownTo
  rw [take_snoc' l k m h, List.filter_append]
  cases hn : noT m <;> simp [hn]
theorem ownTo_len (l : List Mac) (k : Nat) : (ownTo l k).length ≤ k := by
  unfold ownTo
  exact Nat.le_trans (List.length_filter_le _ _) (by rw [List.length_take]; omega)
theorem own_ok {l : List Mac} (hok : checkS l = (0, 0)) (hlast : ∃ l', l = l' ++ [retM]) : checkS (ownTo l l.length) = (0, 0) := by
  obtain ⟨l', rfl⟩ := hlast
  obtain ⟨hl, hall, _⟩ := (code_ok_iff _).1 (by rw [hok])
  apply check_zero
  rw [code_ok_iff]
  have hn : noT retM = true := by unfold noT; rw [show retM.op = 45 from rfl, show hasS (fldS 45) 116 = false by decide +kernel]; rfl
  have e : ownTo (l' ++ [retM]) (l' ++ [retM]).length = l'.filter noT ++ [retM] := by
    unfold ownTo
    rw [List.take_of_length_le (Nat.le_refl _), List.filter_append]
    simp [hn]
  have hle := ownTo_len (l' ++ [retM]) (l' ++ [retM]).length
  refine ⟨by omega, fun j m hm => ?_, retM, ?_, .inr rfl⟩
  · have hmem := List.mem_of_getElem? hm
    unfold ownTo at hmem
    rw [List.mem_filter, List.take_of_length_le (Nat.le_refl _)] at hmem
    obtain ⟨q, hq⟩ := List.mem_iff_getElem?.1 hmem.1
    exact fault_many (hall q m hq) (by have := hmem.2; unfold noT at this; simpa using this)
  · rw [e, List.length_append, List.getElem?_append_right (by simp)]
    simp

set_option maxRecDepth 100000 in
set_option maxHeartbeats 4000000 in
theorem BytesParts_any (v : Value) (xs : List Int) (w : World) (hv : IntsAt w w.heap.size v xs) (hx : ∀ x ∈ xs, I64 x) (ht : Tab w) :
    Calls Tryd.prog 7 #[v] w fun e w' => e = .returned (.bool true) ∧ Below w.heap.size w w' := by
  have HT := Lib.hid ht
  have HCode := Lib.hid (CodeOf_any v xs 30 30 9 w rfl hv hx (by omega) (by omega) (by omega))
  have hok := codeOf_ok xs 30 9 (by omega) (by omega)
  have hi := codeOf_i64 xs 30 9 (by omega) (by unfold I64; omega) hx (by omega)
  have hlen := codeOf_len xs 30 9
  have hlast : ∃ l', codeOf xs 30 9 = l' ++ [retM] := ⟨_, codeOf_to xs 30 9⟩
  generalize codeOf xs 30 9 = ms at *
  have Hok := Lib.hid hok
  have HI := Lib.hid hi
  have HOwn := Lib.hid (own_ok hok hlast)
  have h31 : ms.length ≤ 31 := by omega
  clear hv hx ht hok hi hlen hlast
  go_enter Tryd.func7, Tryd.ntmps7
  go_wp2_with fail
  refine HCode.out.mono ?_
  rintro e w1 ⟨v1, rfl, ho1, hb1⟩
  obtain ⟨A1, c1, hv1, hl1, h63, hcell⟩ := ho1.macs
  have HV1 := Lib.hid ho1.macs
  have HC := Lib.hid hcell
  have HB1 := Lib.hid hb1
  subst hv1
  obtain ⟨len, hlen⟩ : ∃ len, ms.length = len := ⟨_, rfl⟩
  have HL := Lib.hid hlen
  rw [hlen] at hl1 h63 HC h31 ⊢
  clear ho1 hb1 hcell hlen HCode
  go_wp2_with fail
  go_loopw [4, 5, 6] (fun want v i wr => ∃ (k : Nat) (x : Int), k ≤ len ∧ i = .int .i64 k ∧ want = .int .i64 x ∧ 0 ≤ x ∧ x ≤ 14 * k ∧ Hid (x = ((bytesS (ownTo ms k)).length : Int)) ∧ Hid (Below w1.heap.size w1 wr) ∧ Hid (OwnMacs wr w1.heap.size v (ownTo ms k))) (fun _ _ i _ => len - (intOf i).toNat)
  case atStart => exact ⟨0, 0, Nat.zero_le _, rfl, rfl, by omega, by omega, Lib.hid rfl, Lib.hid (Below.refl _ _), Lib.hid (OwnMacs.nil _ _)⟩
  case round =>
    obtain ⟨k, x, hk, rfl, rfl, hx0, hx1, HX, HB, HO⟩ := hrel
    have hz := HB.out.size
    have hol := ownTo_len ms k
    by_cases hlt : k < len
    · obtain ⟨b, off, hA, hbw, hcc⟩ := HC.out (by omega)
      subst hA
      obtain ⟨⟨op, dst, a, b', n⟩, hm⟩ : ∃ m, ms[k]? = some m := ⟨ms[k]'(by rw [HL.out]; exact hlt), List.getElem?_eq_getElem _⟩
      obtain ⟨c0, c1', c2, c3, c4⟩ := (hcc k _ hm).below HB.out hbw
      have Hm := Lib.hid hm
      have Hf := Lib.hid (((code_ok_iff ms).1 (by rw [Hok.out])).2.1 k _ hm)
      have Hi := Lib.hid (HI.out _ (List.mem_of_getElem? hm))
      have HZ := Lib.hid (fld_ok op)
      have hsucc := ownTo_succ ms k _ hm
      have Hcc := Lib.hid hcc
      clear hm hcc
      go_wp2_with fail
      refine (Fields_any _ _).mono ?_
      rintro e w2 ⟨rfl, hb2⟩
      have HB2 := Lib.hid (HB.out.trans (hb2.mono hz))
      have HO2 := Lib.hid (HO.out.below hb2 rfl)
      obtain ⟨c0, c1', c2, c3, c4⟩ := (Hcc.out k _ Hm.out).below HB2.out hbw
      have hz2 := HB2.out.size
      clear hb2
      cases htt : hasS (fldS op) 116
      · have hn : noT ⟨op, dst, a, b', n⟩ = true := by unfold noT; simp only; rw [htt]; rfl
        rw [hn, if_pos rfl] at hsucc
        have HSu := Lib.hid hsucc
        have Hlen := Lib.hid (pair_len (m := ⟨op, dst, a, b', n⟩) Hf.out htt)
        have HPok := Lib.hid (pair_ok (m := ⟨op, dst, a, b', n⟩) Hf.out htt)
        have hcl := codeS_len ⟨op, dst, a, b', n⟩ Hi.out.n
        have hcp : 0 < (codeS ⟨op, dst, a, b', n⟩).length := by unfold codeS; simp
        clear hsucc hn
        go_wp2_with (first
          | (go_at_call 34; refine (Has_any _ _ _ HZ.out).mono ?_; rintro e w' ⟨rfl, rfl⟩)
          | (at_builtin; refine app_one rfl _ _ 22 28 rfl (.agg #[.int .i64 0, .int .i64 0, .int .i64 0, .int .i64 0, .int .i64 0]) 5 40 Tryd.underlying22 infoMac rfl (by decide) (by decide) w1.heap.size u5 _ _ (by rfl) HO2.out _ [.int .i64 op, .int .i64 dst, .int .i64 a, .int .i64 b', .int .i64 n] (by rfl) rfl (cells_one ⟨op, dst, a, b', n⟩) rfl (by omega) hz2 ?_; intro v3 w3 HA3; have ⟨c0, c1', c2, c3, c4⟩ := (Hcc.out k _ Hm.out).below (HB2.out.trans HA3.out.below) hbw))
        have HO3 := Lib.hid (OwnMacs.snoc (m := ⟨op, dst, a, b', n⟩) HA3.out.own)
        have HB3 := Lib.hid (HB2.out.trans HA3.out.below)
        have hz3 := HB3.out.size
        have hA4 : Below w1.heap.size w1 (w3.alloc (.cells #[.int .i64 op, .int .i64 dst, .int .i64 a, .int .i64 b', .int .i64 n, .int .i64 45, .int .i64 0, .int .i64 0, .int .i64 0, .int .i64 0] 28)) := HB3.out.alloc hz3 _
        have hO4 := HO3.out.below ((Below.refl w3.heap.size w3).alloc (Nat.le_refl _) (.cells #[.int .i64 op, .int .i64 dst, .int .i64 a, .int .i64 b', .int .i64 n, .int .i64 45, .int .i64 0, .int .i64 0, .int .i64 0, .int .i64 0] 28)) rfl
        have hms : MacsAt (w3.alloc (.cells #[.int .i64 op, .int .i64 dst, .int .i64 a, .int .i64 b', .int .i64 n, .int .i64 45, .int .i64 0, .int .i64 0, .int .i64 0, .int .i64 0] 28)) _ (.slice (some ⟨w3.heap.size, 0, none⟩) 2 2) [⟨op, dst, a, b', n⟩, retM] :=
          macs_of_cells (ms := [⟨op, dst, a, b', n⟩, retM]) (c := 2) (off := 0) (Blk.new w3 28 _) (fun j u hu => by rw [Nat.zero_add]; simpa [cellsS, retM, Mac.cells] using hu) (by simp) (by simp)
        have hcall := Code_any _ _ _ hms (HT.out.own (HB1.out.trans (hA4.mono HB1.out.size))) (by
          intro m hm
          simp only [List.mem_cons, List.not_mem_nil, or_false] at hm
          rcases hm with rfl | rfl
          · exact Hi.out
          · refine ⟨?_, ?_, ?_, ?_, ?_⟩ <;> (unfold I64 retM; simp))
        rw [HPok.out] at hcall
        have HCl := Lib.hid hcall
        have HB4 := Lib.hid hA4
        have HO4 := Lib.hid hO4
        generalize hL : (codeS ⟨op, dst, a, b', n⟩).length = L at *
        have HLc := Lib.hid hL
        clear hms hcall hA4 hO4 hL HA3 c0 c1' c2 c3 c4
        refine HCl.out.mono ?_
        rintro e w5 ⟨v5, rfl, ⟨A5, c5, hv5, _, hc5, _⟩, hb5⟩
        rw [Hlen.out] at hv5
        subst hv5
        have HO5 := Lib.hid ((HO4.out.below hb5 rfl).below ((Below.refl w5.heap.size w5).alloc (Nat.le_refl _) (.cells #[.int .i64 0, .int .i64 0] 24)) rfl)
        have HB5 := Lib.hid ((HB4.out.trans (hb5.mono HB4.out.size)).alloc (Nat.le_trans HB4.out.size hb5.size) (.cells #[.int .i64 0, .int .i64 0] 24))
        clear hb5
        go_wp2_with fail
        go_roundw
        case rel =>
          refine ⟨k + 1, _, by omega, by go_num, rfl, by omega, by omega, Lib.hid ?_, HB5, Lib.hid (by rw [HSu.out]; exact HO5.out)⟩
          rw [HSu.out, bytes_snoc, List.length_append, HX.out, HLc.out]
          omega
        case measure => simp [intOf]; omega
      · have hn : noT ⟨op, dst, a, b', n⟩ = false := by unfold noT; simp only; rw [htt]; rfl
        rw [hn, if_neg (by simp)] at hsucc
        have HSu := Lib.hid hsucc
        clear hsucc hn
        go_wp2_with (go_at_call 34; refine (Has_any _ _ _ HZ.out).mono ?_; rintro e w' ⟨rfl, rfl⟩)
        go_roundw
        case rel => exact ⟨k + 1, x, by omega, by go_num, rfl, hx0, by omega, Lib.hid (by rw [HSu.out]; exact HX.out), HB2, Lib.hid (by rw [HSu.out]; exact HO2.out)⟩
        case measure => simp [intOf]; omega
    · obtain rfl : k = len := by omega
      have hfin : (codeL (ownTo ms k)).length = (bytesS (ownTo ms k)).length := by
        unfold codeL
        have := HOwn.out
        rw [HL.out] at this
        rw [this, if_pos rfl]
      have hcall := Code_any _ _ _ HO.out.macs (HT.out.own (HB1.out.trans (HB.out.mono HB1.out.size))) (fun m hm => HI.out m (by unfold ownTo at hm; exact List.mem_of_mem_take (List.mem_filter.1 hm).1))
      have hch : checkS (ownTo ms k) = (0, 0) := by have := HOwn.out; rwa [HL.out] at this
      rw [hch] at hcall
      have HCl := Lib.hid hcall
      have HFin := Lib.hid (hfin.trans (by have := HX.out; omega : (bytesS (ownTo ms k)).length = x.toNat))
      have HBw := Lib.hid (HB1.out.trans (HB.out.mono HB1.out.size))
      obtain ⟨xn, hxn⟩ : ∃ xn : Nat, x = xn := ⟨x.toNat, by omega⟩
      subst hxn
      clear hfin hcall hch
      go_wp2_with fail
      refine HCl.out.mono ?_
      rintro e w5 ⟨v5, rfl, ⟨A5, c5, hv5, _, hc5, _⟩, hb5⟩
      rw [HFin.out, Int.toNat_natCast] at hv5
      subst hv5
      have HB5 := Lib.hid ((HBw.out.trans (hb5.mono HBw.out.size)).alloc (Nat.le_trans HBw.out.size hb5.size) (.cells #[.int .i64 0, .int .i64 0] 24))
      clear hb5
      go_wp2_with fail
      go_ret
      exact ⟨ret_bool (by simp), HB5.out⟩
end Go.Proofs.YtkecgobbklmeaaaDoor
