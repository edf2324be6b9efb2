/-
  Several texts in one (UnS UnT): what each proves stands at its theorems.
  Conditions: as the theorems say.
-/
import Derived.Test.YtiknhfbkphoceaaGreatDoorUnL
import Derived.Test.YtiknhfbkphoceaaGreatDoorUnQ
namespace Go.Proofs.YtiknhfbkphoceaaGreatDoor
open Go.RowKit

theorem info_str : (Tryz.prog.info? 9).map (fun i => (i.zero, i.size, i.bytes)) = some (some (.string ⟨#[]⟩), 1, 16) := by kernel_rfl
/-- The slice value v reads as the strings ss. -/
def StrsAt (w : World) (B : Nat) (v : Value) (ss : List ByteArray) : Prop :=
  ∃ (A : Option Addr) (c : Nat), v = .slice A ss.length c ∧ ss.length ≤ c ∧ c ≤ 9223372036854775807 ∧
    (0 < ss.length → ∃ b off, A = some ⟨b, off, none⟩ ∧ b < B ∧ ∀ (k : Nat) (s : ByteArray), ss[k]? = some s → w.cell? ⟨b, off + k, none⟩ = some (.string s))
def OwnStrs (w : World) (base : Nat) (v : Value) (ss : List ByteArray) : Prop := w.ownsRow base 9 1 v ss.length (ss.map Value.string)
theorem OwnStrs.nil (w : World) (base : Nat) : OwnStrs w base (.slice none 0 0) [] := World.ownsRow_nil w base 9 1
theorem OwnStrs.below {w w' : World} {base : Nat} {v : Value} {ss : List ByteArray} (h : OwnStrs w base v ss) (hb : Below w.heap.size w w') : OwnStrs w' base v ss := row_lt h hb
theorem OwnStrs.strs {w : World} {base : Nat} {v : Value} {ss : List ByteArray} (h : OwnStrs w base v ss) : StrsAt w w.heap.size v ss := by
  rcases h.2 with ⟨rfl, hn⟩ | ⟨g, cap, cur, rfl, _, hgg, hnc, hcm, _, _⟩
  · have : ss = [] := List.eq_nil_of_length_eq_zero (by omega)
    subst this
    exact ⟨none, 0, rfl, by simp, by omega, fun h => by simp at h⟩
  · refine ⟨some ⟨g, 0, none⟩, cap, rfl, by omega, by unfold maxLen at hcm; omega, fun _ => ⟨g, 0, rfl, (World.ownsRow.lt h g rfl).2, fun k s hk => ?_⟩⟩
    have hc := World.ownsRow.cells h (g := g) rfl k (.string s) (by rw [List.getElem?_map, hk]; rfl)
    have e : (⟨g, 0, none⟩ : Addr).add k = ⟨g, 0 + k, none⟩ := by
      unfold Addr.add
      split <;> simp_all
    rw [e] at hc
    exact hc
set_option maxRecDepth 100000 in
set_option maxHeartbeats 1000000 in
theorem IndexS_any (v : Value) (ss : List ByteArray) (s : ByteArray) (w : World) (hv : StrsAt w w.heap.size v ss) :
    Calls Tryz.prog 83 #[v, .string s] w fun e w' => e = .returned (.int .i64 (firstS (fun x : ByteArray => s.toList == x.toList) ss)) ∧ Below w.heap.size w w' := by
  have HV := Lib.hid hv
  obtain ⟨A, c, hvv, h1, h2, _⟩ := hv
  subst hvv
  obtain ⟨len, hlen⟩ : ∃ len, ss.length = len := ⟨_, rfl⟩
  have HL := Lib.hid hlen
  rw [hlen] at h1 ⊢
  have h63 : len ≤ 9223372036854775807 := by omega
  clear hlen h2
  generalize hres : firstS (fun x : ByteArray => s.toList == x.toList) ss = res at *
  have Hres := Lib.hid hres
  clear hres
  go_enter Tryz.func83, Tryz.ntmps83
  go_wp2_with fail
  go_loopw [8] (fun i wr => ∃ k : Nat, k ≤ len ∧ i = .int .i64 k ∧ Hid (∀ (j : Nat) (g : ByteArray), j < k → ss[j]? = some g → (s.toList == g.toList) = false) ∧ Hid (Below w.heap.size w wr)) (fun i _ => len - (intOf i).toNat)
  case atStart => exact ⟨0, Nat.zero_le _, rfl, Lib.hid (fun j _ h => absurd h (Nat.not_lt_zero j)), Lib.hid (Below.refl _ _)⟩
  case round =>
    obtain ⟨k, hk, rfl, HN, HB⟩ := hrel
    by_cases hlt : k < len
    · obtain ⟨A', c', e, _, _, h3⟩ := HV.out
      obtain ⟨b, off, hA, hbw, hcell⟩ := h3 (by rw [HL.out]; omega)
      cases e
      subst hA
      obtain ⟨gn, hg⟩ : ∃ g, ss[k]? = some g := ⟨ss[k]'(by rw [HL.out]; exact hlt), List.getElem?_eq_getElem _⟩
      have c0 := (bcell HB.out hbw).trans (hcell k _ hg)
      have Hg := Lib.hid hg
      clear hcell h3 hg
      cases hp : (s.toList == gn.toList)
      · have Hp := Lib.hid hp
        go_wp2_with fail
        clear hp
        go_roundw
        case rel =>
          refine ⟨k + 1, by omega, by go_num, Lib.hid fun j g hj hg => ?_, HB⟩
          rcases Nat.lt_or_ge j k with h | h
          · exact HN.out j g h hg
          · obtain rfl : j = k := by omega
            rw [Hg.out] at hg
            cases hg
            exact Hp.out
        case measure => simp [intOf]; omega
      · have HR := Lib.hid (firstS_hit (p := fun x : ByteArray => s.toList == x.toList) Hg.out hp fun j g hj hg => HN.out j g hj hg)
        go_wp2_with fail
        go_ret
        exact ⟨ret_int (HR.out.symm.trans Hres.out), HB.out⟩
    · have HR := Lib.hid (firstS_none (p := fun x : ByteArray => s.toList == x.toList) (l := ss) fun j g hg => HN.out j g (by have := (List.getElem?_eq_some_iff.1 hg).1; have := HL.out; omega) hg)
      go_wp2_with fail
      go_ret
      exact ⟨ret_int (HR.out.symm.trans Hres.out), HB.out⟩
/-- Was a name there already? -/
def hadS (had : List ByteArray) (s : ByteArray) : Bool := had.any fun h => h.toList == s.toList
set_option maxRecDepth 100000 in
set_option maxHeartbeats 1000000 in
theorem ContainsS_any (v : Value) (ss : List ByteArray) (s : ByteArray) (w : World) (hv : StrsAt w w.heap.size v ss) :
    Calls Tryz.prog 65 #[v, .string s] w fun e w' => e = .returned (.bool (hadS ss s)) ∧ Below w.heap.size w w' := by
  have HC := Lib.hid (IndexS_any v ss s w hv)
  have HA : Hid (decide (0 ≤ firstS (fun x : ByteArray => s.toList == x.toList) ss) = hadS ss s) := Lib.hid (by
    rw [firstS_any]
    unfold hadS
    congr 1
    funext x
    exact BEq.comm)
  clear hv
  generalize firstS (fun x : ByteArray => s.toList == x.toList) ss = r at *
  generalize hadS ss s = bq at *
  go_enter Tryz.func65, Tryz.ntmps65
  go_wp2_with fail
  refine HC.out.mono ?_
  rintro e w1 ⟨rfl, hb1⟩
  have HB1 := Lib.hid hb1
  clear hb1
  go_wp2_with fail
  go_ret
  exact ⟨ret_bool HA.out, HB1.out⟩
section
variable {had : List ByteArray} {f : FunU}
theorem head_12 (h : nameS f.name = false) : headE had f = 12 := by unfold headE; rw [if_pos h]
theorem head_7 (h : nameS f.name = true) (h2 : hadS had f.name = true) : headE had f = 7 := by unfold headE; unfold hadS at h2; rw [if_neg (by rw [h]; simp), if_pos h2]
theorem head_3 (h : nameS f.name = true) (h2 : hadS had f.name = false) (h3 : ¬ (0 ≤ f.params ∧ f.params ≤ 6) ∨ ¬ (f.params ≤ f.regs ∧ f.regs ≤ 100)) : headE had f = 3 := by
  unfold headE; unfold hadS at h2; rw [if_neg (by rw [h]; simp), if_neg (by rw [h2]; simp), if_pos h3]
theorem head_2 (h : nameS f.name = true) (h2 : hadS had f.name = false) (h3 : 0 ≤ f.params ∧ f.params ≤ 6) (h4 : f.params ≤ f.regs ∧ f.regs ≤ 100) (h5 : ¬ (1 ≤ f.blocks.length ∧ f.blocks.length ≤ 40) ∨ 300 < manyU f.blocks) : headE had f = 2 := by
  unfold headE; unfold hadS at h2; rw [if_neg (by rw [h]; simp), if_neg (by rw [h2]; simp), if_neg (by omega), if_pos h5]
theorem head_0 (h : nameS f.name = true) (h2 : hadS had f.name = false) (h3 : 0 ≤ f.params ∧ f.params ≤ 6) (h4 : f.params ≤ f.regs ∧ f.regs ≤ 100) (h5 : 1 ≤ f.blocks.length ∧ f.blocks.length ≤ 40) (h6 : ¬ 300 < manyU f.blocks) : headE had f = 0 := by
  unfold headE; unfold hadS at h2; rw [if_neg (by rw [h]; simp), if_neg (by rw [h2]; simp), if_neg (by omega), if_neg (by omega)]
end
theorem manyU_snoc {bs : List BlkU} {k : Nat} {b : BlkU} (h : bs[k]? = some b) : manyU (bs.take (k + 1)) = manyU (bs.take k) + (b.phis.length + b.list.length) := by
  have hlt := (List.getElem?_eq_some_iff.1 h).1
  unfold manyU
  rw [List.take_succ_eq_append_getElem hlt, (List.getElem?_eq_some_iff.1 h).2]
  simp
theorem wrap_i64 (x : Int) : I64 (wrap64 x) := by
  unfold I64 wrap64
  omega
set_option maxRecDepth 100000 in
set_option maxHeartbeats 2000000 in
theorem head_any (gA fA bA : Option Addr) (gl gc fl fc bl bc : Nat) (nm : ByteArray) (ps regs : Int) (nv : Value) (had : List ByteArray) (blocks : List BlkU) (w : World) (hps : I64 ps) (hrg : I64 regs) (hnm : nm.size ≤ 9223372036854775807) (hb : BlksAt w w.heap.size (.slice bA bl bc) blocks) (hv : StrsAt w w.heap.size nv had) :
    Calls Tryz.prog 66 #[.agg #[.slice gA gl gc, .slice fA fl fc, .string nm, .int .i64 ps, .int .i64 regs, .slice bA bl bc, .slice none 0 0], nv] w fun e w' => e = .returned (.int .i64 (headE had ⟨nm, ps, regs, blocks⟩)) ∧ Below w.heap.size w w' := by
  have HBl := Lib.hid hb
  have hlen : blocks.length = bl := SlAt.len hb
  have HL := Lib.hid hlen
  have hbl63 : bl ≤ 140737488351232 := by
    obtain ⟨A', c', e, h1, h2⟩ := SlAt.form hb
    cases e
    omega
  have HS := Lib.hid hv
  obtain ⟨nA, nc, hnv, _, _, _⟩ := id hv
  subst hnv
  have hp0 := hps.1
  have hp1 := hps.2
  have hr0 := hrg.1
  have hr1 := hrg.2
  clear hb hv hlen hps hrg
  have HW0 : Hid (Below w.heap.size w (w.alloc (.cells #[.slice gA gl gc, .slice fA fl fc, .string nm, .int .i64 ps, .int .i64 regs, .slice bA bl bc, .slice none 0 0] 118))) := Lib.hid ((Below.refl _ _).alloc (Nat.le_refl _) _)
  have HC0 : Hid (Blk (w.alloc (.cells #[.slice gA gl gc, .slice fA fl fc, .string nm, .int .i64 ps, .int .i64 regs, .slice bA bl bc, .slice none 0 0] 118)) w.heap.size 118 #[.slice gA gl gc, .slice fA fl fc, .string nm, .int .i64 ps, .int .i64 regs, .slice bA bl bc, .slice none 0 0]) := Lib.hid (Blk.new w _ _)
  go_enter Tryz.func66, Tryz.ntmps66
  go_wp2_with fail
  generalize w.alloc (.cells #[.slice gA gl gc, .slice fA fl fc, .string nm, .int .i64 ps, .int .i64 regs, .slice bA bl bc, .slice none 0 0] 118) = W at *
  go_loopw [5, 12] (fun m i wr => ∃ (k : Nat) (z : Int), k ≤ bl ∧ i = .int .i64 k ∧ m = .int .i64 z ∧ -9223372036854775808 ≤ z ∧ z ≤ 9223372036854775807 ∧ Hid (k ≤ 40 → z = (manyU (blocks.take k) : Int) ∧ z ≤ k * 281474976702464) ∧ Hid (Below w.heap.size w wr) ∧ Hid (Blk wr w.heap.size 118 #[.slice gA gl gc, .slice fA fl fc, .string nm, .int .i64 ps, .int .i64 regs, .slice bA bl bc, .slice none 0 0])) (fun _ i _ => bl - (intOf i).toNat)
  case atStart => exact ⟨0, 0, Nat.zero_le _, rfl, rfl, by omega, by omega, Lib.hid (fun _ => ⟨by simp [manyU], by omega⟩), HW0, HC0⟩
  case round =>
    obtain ⟨k, z, hk, rfl, rfl, hz0, hz1, HM, HB, HC⟩ := hrel
    clear HW0 HC0
    by_cases hlt : k < bl
    · obtain ⟨⟨phis, list, kind, ⟨onr, onn⟩, ts⟩, hbk⟩ : ∃ b, blocks[k]? = some b := ⟨blocks[k]'(by rw [HL.out]; exact hlt), List.getElem?_eq_getElem _⟩
      obtain ⟨bb, boff, hbA, hbb, us, ⟨pv, lv, tv, rfl, hp, hl, ht⟩, hcell⟩ := SlAt.at HBl.out hbk
      have b0 := (bcell HB.out hbb).trans (hcell 0 _ rfl)
      have b1 := (bcell HB.out hbb).trans (hcell 1 _ rfl)
      have b2 := (bcell HB.out hbb).trans (hcell 2 _ rfl)
      have b3 := (bcell HB.out hbb).trans (hcell 3 _ rfl)
      have b4 := (bcell HB.out hbb).trans (hcell 4 _ rfl)
      have b5 := (bcell HB.out hbb).trans (hcell 5 _ rfl)
      simp only [Nat.add_zero] at b0
      obtain ⟨pA, pc, rfl, hpc, hp63⟩ := SlAt.form hp
      obtain ⟨lA, lc, rfl, hlc, hl63⟩ := SlAt.form hl
      obtain ⟨tA, tc, rfl, htc, ht63, _⟩ := id ht
      simp only at b0 b1 b2 b3 b4 b5 hpc hlc htc
      have HMk := Lib.hid (manyU_snoc hbk)
      obtain ⟨tl, htl⟩ : ∃ tl, ts.length = tl := ⟨_, rfl⟩
      obtain ⟨pl, hpl⟩ : ∃ pl, phis.length = pl := ⟨_, rfl⟩
      obtain ⟨ll, hll⟩ : ∃ ll, list.length = ll := ⟨_, rfl⟩
      rw [htl] at b5
      rw [hpl] at b0 hpc hp63
      rw [hll] at b1 hlc hl63
      simp only [hpl, hll] at HMk
      subst hbA
      have hk0 : (0 : Int) ≤ (k : Int) := Int.natCast_nonneg k
      have hk1 : (k : Int) < (bl : Int) := by omega
      have HC1 := Lib.hid (HC.out.alloc (.cells #[.slice pA pl pc, .slice lA ll lc, .int .i64 kind, .bool onr, .int .i64 onn, .slice tA tl tc] 78))
      have HB1 := Lib.hid (HB.out.alloc HB.out.size (.cells #[.slice pA pl pc, .slice lA ll lc, .int .i64 kind, .bool onr, .int .i64 onn, .slice tA tl tc] 78))
      clear hp hl ht hcell hbk htl hpl hll
      by_cases h40 : k < 40
      · obtain ⟨hz2, hz3⟩ := HM.out (by omega)
        have hz4 : 0 ≤ z := by omega
        have HM2 : Hid (k + 1 ≤ 40 → z + ((pl : Int) + (ll : Int)) = (manyU (blocks.take (k + 1)) : Int) ∧ z + ((pl : Int) + (ll : Int)) ≤ ((k + 1 : Nat) : Int) * 281474976702464) := Lib.hid (fun _ => by
          rw [HMk.out]
          constructor <;> omega)
        clear hz2
        go_wp2_with fail
        go_roundw
        case rel => exact ⟨k + 1, _, by omega, by go_num, rfl, by omega, by omega, HM2, HB1, HC1⟩
        case measure => simp [intOf]; omega
      · have hwr := wrap_i64 (z + ((pl : Int) + (ll : Int)))
        have Hw := Lib.hid hwr
        clear hwr
        go_wp2_with fail
        go_roundw
        case rel => exact ⟨k + 1, wrap64 (z + ((pl : Int) + (ll : Int))), by omega, by go_num, rfl, Hw.out.1, Hw.out.2, Lib.hid (fun h => absurd h (by omega)), HB1, HC1⟩
        case measure => simp [intOf]; omega
    · obtain rfl : k = bl := by omega
      have c2 := HC.out.cell 2
      have c3 := HC.out.cell 3
      have c4 := HC.out.cell 4
      have c5 := HC.out.cell 5
      have HT : Hid (blocks.length ≤ 40 → z = (manyU blocks : Int)) := Lib.hid (fun h => by
        have := (HM.out (by rw [← HL.out]; exact h)).1
        rw [← HL.out, List.take_length] at this
        exact this)
      clear HM
      go_wp2_with fail
      refine (Name_any nm _ hnm).mono ?_
      rintro e w' ⟨rfl, rfl⟩
      cases hq : nameS nm
      · have HE : Hid (headE had ⟨nm, ps, regs, blocks⟩ = 12) := Lib.hid (head_12 hq)
        clear hq
        go_wp2_with fail
        go_ret
        exact ⟨ret_int HE.out.symm, HB.out⟩
      · have Hq := Lib.hid hq
        clear hq
        go_wp2_with fail
        refine (ContainsS_any _ had nm _ (by
          obtain ⟨A', c', e, h1, h2, h3⟩ := HS.out
          refine ⟨A', c', e, h1, h2, fun hl => ?_⟩
          obtain ⟨b, off, e1, e2, e3⟩ := h3 hl
          exact ⟨b, off, e1, Nat.lt_of_lt_of_le e2 HB.out.size, fun k s hk => (bcell HB.out e2).trans (e3 k s hk)⟩)).mono ?_
        rintro e W2 ⟨rfl, hb2⟩
        have HC2 := Lib.hid (HC.out.below hb2 HC.out.lt)
        have HB2 := Lib.hid (HB.out.trans (hb2.mono HB.out.size))
        clear hb2 c2 c3 c4 c5 HB HC
        have c2 := HC2.out.cell 2
        have c3 := HC2.out.cell 3
        have c4 := HC2.out.cell 4
        have c5 := HC2.out.cell 5
        cases hh : hadS had nm
        · have Hh := Lib.hid hh
          clear hh
          have HW1 := Lib.hid (Within_any ps 0 6)
          have HW2 := Lib.hid (Within_any regs ps 100)
          have HW3 := Lib.hid (Within_any (k : Int) 1 40)
          go_wp2_with fail
          refine (HW1.out _).mono ?_
          rintro e w' ⟨rfl, rfl⟩
          cases hp : decide (0 ≤ ps ∧ ps ≤ 6)
          · have HE : Hid (headE had ⟨nm, ps, regs, blocks⟩ = 3) := Lib.hid (head_3 Hq.out Hh.out (.inl (of_decide_eq_false hp)))
            clear hp
            go_wp2_with fail
            go_ret
            exact ⟨ret_int HE.out.symm, HB2.out⟩
          · have Hp := Lib.hid (of_decide_eq_true hp)
            clear hp
            go_wp2_with fail
            refine (HW2.out _).mono ?_
            rintro e w' ⟨rfl, rfl⟩
            cases hr : decide (ps ≤ regs ∧ regs ≤ 100)
            · have HE : Hid (headE had ⟨nm, ps, regs, blocks⟩ = 3) := Lib.hid (head_3 Hq.out Hh.out (.inr (of_decide_eq_false hr)))
              clear hr
              go_wp2_with fail
              go_ret
              exact ⟨ret_int HE.out.symm, HB2.out⟩
            · have Hr := Lib.hid (of_decide_eq_true hr)
              clear hr
              go_wp2_with fail
              refine (HW3.out _).mono ?_
              rintro e w' ⟨rfl, rfl⟩
              cases hn : decide ((1 : Int) ≤ (k : Int) ∧ (k : Int) ≤ 40)
              · have HE : Hid (headE had ⟨nm, ps, regs, blocks⟩ = 2) := Lib.hid (head_2 Hq.out Hh.out Hp.out Hr.out (.inl (by have := of_decide_eq_false hn; show ¬ (1 ≤ blocks.length ∧ blocks.length ≤ 40); rw [HL.out]; omega)))
                clear hn
                go_wp2_with fail
                go_ret
                exact ⟨ret_int HE.out.symm, HB2.out⟩
              · have Hn : Hid (1 ≤ blocks.length ∧ blocks.length ≤ 40) := Lib.hid (by have := of_decide_eq_true hn; rw [HL.out]; omega)
                clear hn
                by_cases hm : 300 < z
                · have HE : Hid (headE had ⟨nm, ps, regs, blocks⟩ = 2) := Lib.hid (head_2 Hq.out Hh.out Hp.out Hr.out (.inr (by have := HT.out Hn.out.2; show 300 < manyU blocks; omega)))
                  go_wp2_with fail
                  go_ret
                  exact ⟨ret_int HE.out.symm, HB2.out⟩
                · have HE : Hid (headE had ⟨nm, ps, regs, blocks⟩ = 0) := Lib.hid (head_0 Hq.out Hh.out Hp.out Hr.out Hn.out (by have := HT.out Hn.out.2; show ¬ 300 < manyU blocks; omega))
                  go_wp2_with fail
                  go_ret
                  exact ⟨ret_int HE.out.symm, HB2.out⟩
        · have HE : Hid (headE had ⟨nm, ps, regs, blocks⟩ = 7) := Lib.hid (head_7 Hq.out hh)
          clear hh
          go_wp2_with fail
          go_ret
          exact ⟨ret_int HE.out.symm, HB2.out⟩
end Go.Proofs.YtiknhfbkphoceaaGreatDoor
namespace Go.Proofs.YtiknhfbkphoceaaGreatDoor
open Go.RowKit

set_option maxRecDepth 100000 in
theorem Fault_any (c a : Int) (w : World) : Calls Tryz.prog 9 #[.int .i64 c, .int .i64 a] w fun e w' => e = .returned (.agg #[.int .i64 c, .int .i64 a]) ∧ Below w.heap.size w w' := by
  go_enter Tryz.func9, Tryz.ntmps9
  go_wp2_with fail
  exact end_cell rfl rfl (Blk.new w _ _) Tryz.underlying28 rfl (by kernel_rfl) rfl ⟨rfl, (Below.refl _ _).alloc (Nat.le_refl _) _⟩
set_option maxRecDepth 100000 in
theorem isMain_any (nm : ByteArray) (ps regs : Int) (bA : Option Addr) (bl bc : Nat) (w : World) : Calls Tryz.prog 69 #[.agg #[.string nm, .int .i64 ps, .int .i64 regs, .slice bA bl bc]] w fun e w' => e = .returned (.bool (mainU nm)) ∧ Below w.heap.size w w' := by
  go_enter Tryz.func69, Tryz.ntmps69
  go_wp2_with fail
  go_ret
  exact ⟨ret_bool (by unfold mainU; rfl), (Below.refl _ _).alloc (Nat.le_refl _) _⟩
set_option maxRecDepth 100000 in
theorem hasPhis_any (pA lA tA : Option Addr) (pl pc ll lc tl tc : Nat) (kind : Int) (onr : Bool) (onn : Int) (w : World) : Calls Tryz.prog 49 #[.agg #[.slice pA pl pc, .slice lA ll lc, .int .i64 kind, .bool onr, .int .i64 onn, .slice tA tl tc]] w fun e w' => e = .returned (.bool (decide (0 < pl))) ∧ Below w.heap.size w w' := by
  go_enter Tryz.func49, Tryz.ntmps49
  go_wp2_with fail
  go_ret
  exact ⟨ret_bool (by simp), (Below.refl _ _).alloc (Nat.le_refl _) _⟩
set_option maxRecDepth 100000 in
set_option maxHeartbeats 1000000 in
theorem IndexF_any (F : FuncId) (v : Value) (gs : List FunU) (p : FunU → Bool) (w : World) (hv : FunsAt w w.heap.size v gs) (hc : ∀ (a : Array Value) (W : World), (callFunc F a).run Tryz.prog W = .ok (.enter F a) W)
    (HF : ∀ (us : List Value) (g : FunU) (W : World), g ∈ gs → Below w.heap.size w W → FunP w w.heap.size us g → Calls Tryz.prog F #[.agg us.toArray] W fun e W' => e = .returned (.bool (p g)) ∧ Below W.heap.size W W') :
    Calls Tryz.prog 68 #[v, .func (.func F) #[] #[]] w fun e w' => e = .returned (.int .i64 (firstS p gs)) ∧ Below w.heap.size w w' := by
  have HV := Lib.hid hv
  have Hf := Lib.hid HF
  obtain ⟨A, c, hvv, h1, h2⟩ := SlAt.form hv
  subst hvv
  obtain ⟨len, hlen⟩ : ∃ len, gs.length = len := ⟨_, rfl⟩
  have HL := Lib.hid hlen
  rw [hlen] at h1 HV ⊢
  have h63 : len ≤ 9223372036854775807 := by omega
  clear hlen HF h2 hv
  generalize hres : firstS p gs = res at *
  have Hres := Lib.hid hres
  clear hres
  go_enter Tryz.func68, Tryz.ntmps68
  go_wp2_with fail
  go_loopw [8] (fun i wr => ∃ k : Nat, k ≤ len ∧ i = .int .i64 k ∧ Hid (∀ (j : Nat) (g : FunU), j < k → gs[j]? = some g → p g = false) ∧ Hid (Below w.heap.size w wr)) (fun i _ => len - (intOf i).toNat)
  case atStart => exact ⟨0, Nat.zero_le _, rfl, Lib.hid (fun j _ h => absurd h (Nat.not_lt_zero j)), Lib.hid (Below.refl _ _)⟩
  case round =>
    obtain ⟨k, hk, rfl, HN, HB⟩ := hrel
    by_cases hlt : k < len
    · obtain ⟨g, hg⟩ : ∃ g, gs[k]? = some g := ⟨gs[k]'(by rw [HL.out]; exact hlt), List.getElem?_eq_getElem _⟩
      obtain ⟨b, off, hA, hbw, us, hus, hcell⟩ := SlAt.at HV.out hg
      have Hc := Hf.out us g wr (List.mem_of_getElem? hg) HB.out hus
      obtain ⟨bv, rfl, hb⟩ := hus
      obtain ⟨bA, bc, rfl, _, _⟩ := SlAt.form hb
      have d0 := (bcell HB.out hbw).trans (hcell 0 _ rfl)
      have d1 := (bcell HB.out hbw).trans (hcell 1 _ rfl)
      have d2 := (bcell HB.out hbw).trans (hcell 2 _ rfl)
      have d3 := (bcell HB.out hbw).trans (hcell 3 _ rfl)
      simp only [Nat.add_zero] at d0
      subst hA
      have Hc := Lib.hid Hc
      have Hg := Lib.hid hg
      clear hcell hg
      go_wp2_with fail
      refine Hc.out.mono ?_
      rintro e w1 ⟨rfl, hb1⟩
      have HB1 := Lib.hid (HB.out.trans (hb1.mono HB.out.size))
      clear hb1 Hc
      cases hp : p g
      · have Hp := Lib.hid hp
        clear hp
        go_wp2_with fail
        go_roundw
        case rel =>
          refine ⟨k + 1, by omega, by go_num, Lib.hid fun j g' hj hg => ?_, HB1⟩
          rcases Nat.lt_or_ge j k with h | h
          · exact HN.out j g' h hg
          · obtain rfl : j = k := by omega
            rw [Hg.out] at hg
            cases hg
            exact Hp.out
        case measure => simp [intOf]; omega
      · have HR := Lib.hid (firstS_hit (p := p) Hg.out hp fun j g hj hg => HN.out j g hj hg)
        clear hp
        go_wp2_with fail
        go_ret
        exact ⟨ret_int (HR.out.symm.trans Hres.out), HB1.out⟩
    · have HR := Lib.hid (firstS_none (p := p) (l := gs) fun j g hg => HN.out j g (by have := (List.getElem?_eq_some_iff.1 hg).1; have := HL.out; omega) hg)
      go_wp2_with fail
      go_ret
      exact ⟨ret_int (HR.out.symm.trans Hres.out), HB.out⟩
set_option maxRecDepth 100000 in
set_option maxHeartbeats 1000000 in
theorem IndexB_any (F : FuncId) (v : Value) (gs : List BlkU) (p : BlkU → Bool) (w : World) (hv : BlksAt w w.heap.size v gs) (hc : ∀ (a : Array Value) (W : World), (callFunc F a).run Tryz.prog W = .ok (.enter F a) W)
    (HF : ∀ (us : List Value) (g : BlkU) (W : World), g ∈ gs → Below w.heap.size w W → BlkP w w.heap.size us g → Calls Tryz.prog F #[.agg us.toArray] W fun e W' => e = .returned (.bool (p g)) ∧ Below W.heap.size W W') :
    Calls Tryz.prog 70 #[v, .func (.func F) #[] #[]] w fun e w' => e = .returned (.int .i64 (firstS p gs)) ∧ Below w.heap.size w w' := by
  have HV := Lib.hid hv
  have Hf := Lib.hid HF
  obtain ⟨A, c, hvv, h1, h2⟩ := SlAt.form hv
  subst hvv
  obtain ⟨len, hlen⟩ : ∃ len, gs.length = len := ⟨_, rfl⟩
  have HL := Lib.hid hlen
  rw [hlen] at h1 HV ⊢
  have h63 : len ≤ 9223372036854775807 := by omega
  clear hlen HF h2 hv
  generalize hres : firstS p gs = res at *
  have Hres := Lib.hid hres
  clear hres
  go_enter Tryz.func70, Tryz.ntmps70
  go_wp2_with fail
  go_loopw [8] (fun i wr => ∃ k : Nat, k ≤ len ∧ i = .int .i64 k ∧ Hid (∀ (j : Nat) (g : BlkU), j < k → gs[j]? = some g → p g = false) ∧ Hid (Below w.heap.size w wr)) (fun i _ => len - (intOf i).toNat)
  case atStart => exact ⟨0, Nat.zero_le _, rfl, Lib.hid (fun j _ h => absurd h (Nat.not_lt_zero j)), Lib.hid (Below.refl _ _)⟩
  case round =>
    obtain ⟨k, hk, rfl, HN, HB⟩ := hrel
    by_cases hlt : k < len
    · obtain ⟨g, hg⟩ : ∃ g, gs[k]? = some g := ⟨gs[k]'(by rw [HL.out]; exact hlt), List.getElem?_eq_getElem _⟩
      obtain ⟨b, off, hA, hbw, us, hus, hcell⟩ := SlAt.at HV.out hg
      have Hc := Hf.out us g wr (List.mem_of_getElem? hg) HB.out hus
      obtain ⟨pv, lv, tv, rfl, hp, hl, ht⟩ := hus
      obtain ⟨pA, pc, rfl, _, _⟩ := SlAt.form hp
      obtain ⟨lA, lc, rfl, _, _⟩ := SlAt.form hl
      obtain ⟨tA, tc, rfl, _, _, _⟩ := ht
      have d0 := (bcell HB.out hbw).trans (hcell 0 _ rfl)
      have d1 := (bcell HB.out hbw).trans (hcell 1 _ rfl)
      have d2 := (bcell HB.out hbw).trans (hcell 2 _ rfl)
      have d3 := (bcell HB.out hbw).trans (hcell 3 _ rfl)
      have d4 := (bcell HB.out hbw).trans (hcell 4 _ rfl)
      have d5 := (bcell HB.out hbw).trans (hcell 5 _ rfl)
      simp only [Nat.add_zero] at d0
      clear hp hl
      subst hA
      have Hc := Lib.hid Hc
      have Hg := Lib.hid hg
      clear hcell hg
      go_wp2_with fail
      refine Hc.out.mono ?_
      rintro e w1 ⟨rfl, hb1⟩
      have HB1 := Lib.hid (HB.out.trans (hb1.mono HB.out.size))
      clear hb1 Hc
      cases hp : p g
      · have Hp := Lib.hid hp
        clear hp
        go_wp2_with fail
        go_roundw
        case rel =>
          refine ⟨k + 1, by omega, by go_num, Lib.hid fun j g' hj hg => ?_, HB1⟩
          rcases Nat.lt_or_ge j k with h | h
          · exact HN.out j g' h hg
          · obtain rfl : j = k := by omega
            rw [Hg.out] at hg
            cases hg
            exact Hp.out
        case measure => simp [intOf]; omega
      · have HR := Lib.hid (firstS_hit (p := p) Hg.out hp fun j g hj hg => HN.out j g hj hg)
        clear hp
        go_wp2_with fail
        go_ret
        exact ⟨ret_int (HR.out.symm.trans Hres.out), HB1.out⟩
    · have HR := Lib.hid (firstS_none (p := p) (l := gs) fun j g hg => HN.out j g (by have := (List.getElem?_eq_some_iff.1 hg).1; have := HL.out; omega) hg)
      go_wp2_with fail
      go_ret
      exact ⟨ret_int (HR.out.symm.trans Hres.out), HB.out⟩
set_option maxRecDepth 100000 in
set_option maxHeartbeats 1000000 in
theorem ContainsB_any (F : FuncId) (v : Value) (gs : List BlkU) (p : BlkU → Bool) (w : World) (hv : BlksAt w w.heap.size v gs) (hc : ∀ (a : Array Value) (W : World), (callFunc F a).run Tryz.prog W = .ok (.enter F a) W)
    (HF : ∀ (us : List Value) (g : BlkU) (W : World), g ∈ gs → Below w.heap.size w W → BlkP w w.heap.size us g → Calls Tryz.prog F #[.agg us.toArray] W fun e W' => e = .returned (.bool (p g)) ∧ Below W.heap.size W W') :
    Calls Tryz.prog 48 #[v, .func (.func F) #[] #[]] w fun e w' => e = .returned (.bool (gs.any p)) ∧ Below w.heap.size w w' := by
  have HC := Lib.hid (IndexB_any F v gs p w hv hc HF)
  have HA := Lib.hid (firstS_any p gs)
  clear hv hc HF
  generalize firstS p gs = r at *
  generalize gs.any p = bq at *
  go_enter Tryz.func48, Tryz.ntmps48
  go_wp2_with fail
  refine HC.out.mono ?_
  rintro e w1 ⟨rfl, hb1⟩
  have HB1 := Lib.hid hb1
  clear hb1
  go_wp2_with fail
  go_ret
  exact ⟨ret_bool HA.out, HB1.out⟩
theorem firstS_cases {α : Type} (p : α → Bool) (l : List α) : (firstS p l = -1 ∧ ∀ (j : Nat) (y : α), l[j]? = some y → p y = false) ∨ ∃ (i : Nat) (x : α), firstS p l = (i : Int) ∧ l[i]? = some x ∧ p x = true ∧ ∀ (j : Nat) (y : α), j < i → l[j]? = some y → p y = false := by
  unfold firstS
  cases h : l.findIdx? p with
  | none =>
    rw [List.findIdx?_eq_none_iff] at h
    exact .inl ⟨rfl, fun j y hj => h y (List.mem_of_getElem? hj)⟩
  | some i =>
    rw [List.findIdx?_eq_some_iff_getElem] at h
    obtain ⟨hlt, hp, hn⟩ := h
    refine .inr ⟨i, l[i], rfl, List.getElem?_eq_getElem hlt, hp, fun j y hj hy => ?_⟩
    have := hn j hj
    rw [List.getElem?_eq_getElem (by omega)] at hy
    cases hy
    simpa using this
theorem mainF_none {fs : List FunU} (h : ∀ (j : Nat) (f : FunU), fs[j]? = some f → mainU f.name = false) : mainF fs = (6, 0) := by
  unfold mainF
  split
  · rfl
  · rename_i i hf
    have h1 := List.find?_some hf
    cases hi : fs[i]? with
    | none => simp only [hi] at h1; cases h1
    | some f =>
      simp only [hi] at h1
      rw [h i f hi] at h1
      cases h1
theorem mainF_hit {fs : List FunU} {i : Nat} {f : FunU} (hi : fs[i]? = some f) (hm : mainU f.name = true) (h : ∀ (j : Nat) (f : FunU), j < i → fs[j]? = some f → mainU f.name = false) : mainF fs = if 0 < f.params then (5, (i : Int)) else (0, 0) := by
  have hlt := (List.getElem?_eq_some_iff.1 hi).1
  unfold mainF
  split
  · rename_i hf
    rw [List.find?_eq_none] at hf
    have h1 := hf i (by simpa using hlt)
    simp only [hi] at h1
    exact absurd hm h1
  · rename_i j hf
    rw [List.find?_eq_some_iff_getElem] at hf
    obtain ⟨hp, q, hq, he, hb⟩ := hf
    simp only [List.getElem_range] at he
    subst he
    have hji : q = i := by
      rcases Nat.lt_trichotomy q i with h1 | h1 | h1
      · have hql : q < fs.length := by omega
        simp only [List.getElem?_eq_getElem hql] at hp
        rw [h q _ h1 (List.getElem?_eq_getElem hql)] at hp
        cases hp
      · exact h1
      · have h2 := hb i h1
        simp only [List.getElem_range, hi, hm] at h2
        cases h2
    subst hji
    simp only [List.getD_eq_getElem?_getD, List.getElem?_map, hi, Option.map_some, Option.getD_some]
end Go.Proofs.YtiknhfbkphoceaaGreatDoor
