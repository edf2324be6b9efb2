/-
  Several texts in one (MuA MuB): what each proves stands at its theorems.
  Conditions: as the theorems say.
-/
import Derived.Test.YtkiaffaieniebaaDoorMtC
import Derived.Test.YtkiaffaieniebaaDoorRwC
import Derived.Test.YtkiaffaieniebaaDoorRuT
namespace Go.Proofs.YtkiaffaieniebaaDoor
open Go.RowKit

theorem step_but {l l' : List Mac} {k : Nat} (h : ∀ j, j ≠ k → l'[j]? = l[j]?) {s : Mch} (hp : s.pos ≠ (0, k)) : stepS [l'] s = stepS [l] s := by
  unfold stepS
  cases hc : s.calls with
  | nil => rfl
  | cons c cs =>
    have hm : macAt [l'] c.r c.pc = macAt [l] c.r c.pc := by
      unfold macAt
      cases hr : c.r with
      | zero =>
        have hne : c.pc ≠ k := fun e => hp (by unfold Mch.pos; rw [hc]; simp only; rw [hr, e])
        show l'.getD c.pc _ = l.getD c.pc _
        rw [List.getD_eq_getElem?_getD, List.getD_eq_getElem?_getD, h _ hne]
      | succ r => rfl
    show doS (macAt [l'] c.r c.pc) _ _ _ = doS (macAt [l] c.r c.pc) _ _ _
    rw [hm]
/-- What is not met may be anything. -/
theorem unmet_run {l l' : List Mac} {k : Nat} (h : ∀ j, j ≠ k → l'[j]? = l[j]?) (s : Mch) : ∀ n, (0, k) ∉ metS [l] s n → runS [l'] s n = runS [l] s n
  | 0, _ => rfl
  | n + 1, hn => by
    cases ho : (runS [l] s n).over
    · rw [(run_succ ho).2, List.mem_append, List.mem_singleton] at hn
      have ih := unmet_run h s n fun hm => hn (.inl hm)
      have ho' : (runS [l'] s n).over = false := by rw [ih, ho]
      rw [(run_succ ho).1, (run_succ ho').1, ih]
      exact step_but h fun e => hn (.inr e.symm)
    · rw [(run_over ho (n + 1) (by omega)).2] at hn
      have ih := unmet_run h s n hn
      have ho' : (runS [l'] s n).over = true := by rw [ih, ho]
      rw [(run_over ho (n + 1) (by omega)).1, (run_over ho' (n + 1) (by omega)).1, ih]
theorem set_but {l : List Mac} {k : Nat} (m : Mac) : ∀ j, j ≠ k → (l.set k m)[j]? = l[j]? := fun j hj => by rw [List.getElem?_set, if_neg (Ne.symm hj)]
/-- The code with another instruction, not the last. -/
theorem Dead.set {l : List Mac} (h : Dead l) {k : Nat} (hk : k < l.length) (hlast : k ≠ l.length - 1) {m : Mac} (hm : faultS m (l.length : Int) = 0) (hok : m.ok) (h44 : m.op ≠ 44) : Dead (l.set k m) := by
  obtain ⟨q1, q2, q3⟩ := h
  refine ⟨?_, fun m' hm' => ?_, fun m' hm' => ?_⟩
  · rw [code_ok_iff] at q1 ⊢
    obtain ⟨h1, h2, x, h3, h4⟩ := q1
    rw [List.length_set]
    refine ⟨h1, fun j m' hj => ?_, x, by rw [set_but m _ (Ne.symm hlast)]; exact h3, h4⟩
    by_cases e : j = k
    · subst e
      rw [List.getElem?_set, if_pos rfl, if_pos hk] at hj
      cases hj
      exact hm
    · rw [set_but m j e] at hj
      exact h2 j m' hj
  · rcases List.mem_or_eq_of_mem_set hm' with h | rfl
    · exact q2 _ h
    · exact hok
  · rcases List.mem_or_eq_of_mem_set hm' with h | rfl
    · exact q3 _ h
    · exact h44
theorem cells_put : ∀ (ms : List Mac) (k : Nat) (m : Mac), k < ms.length →
    (((((cellsS ms).set (k * 5) (.int .i64 m.op)).set (k * 5 + 1) (.int .i64 m.dst)).set (k * 5 + 2) (.int .i64 m.a)).set (k * 5 + 3) (.int .i64 m.b)).set (k * 5 + 4) (.int .i64 m.n) = cellsS (ms.set k m)
  | [], k, m, h => by simp at h
  | m0 :: ms, 0, m, h => by simp [cellsS, Mac.cells]
  | m0 :: ms, k + 1, m, h => by
    have ih := cells_put ms k m (by simpa using h)
    have key : ∀ (xs : List Value) (i : Nat) (u : Value), (m0.cells ++ xs).set (5 + i) u = m0.cells ++ xs.set i u := fun xs i u => by
      rw [List.set_append_right _ _ (by simp [Mac.cells])]
      congr 2
      simp [Mac.cells]
    rw [List.set_cons_succ]
    show (((((m0.cells ++ cellsS ms).set _ _).set _ _).set _ _).set _ _).set _ _ = m0.cells ++ cellsS _
    rw [show (k + 1) * 5 = 5 + k * 5 by omega, show 5 + k * 5 + 1 = 5 + (k * 5 + 1) by omega, show 5 + k * 5 + 2 = 5 + (k * 5 + 2) by omega, show 5 + k * 5 + 3 = 5 + (k * 5 + 3) by omega, show 5 + k * 5 + 4 = 5 + (k * 5 + 4) by omega,
      key, key, key, key, key, ih]
/-- Another instruction stored in a list that the call owns. -/
theorem OwnMacs.put5 {w : World} {E b c k n : Nat} {ms : List Mac} (h : OwnMacs w E (.slice (some ⟨b, 0, none⟩) n c) ms) (hn : ms.length = n) (hk : k < n) (m : Mac) :
    OwnMacs (((((w.setCell ⟨b, k * 5, none⟩ (.int .i64 m.op)).setCell ⟨b, k * 5 + 1, none⟩ (.int .i64 m.dst)).setCell ⟨b, k * 5 + 2, none⟩ (.int .i64 m.a)).setCell ⟨b, k * 5 + 3, none⟩ (.int .i64 m.b)).setCell ⟨b, k * 5 + 4, none⟩ (.int .i64 m.n)) E (.slice (some ⟨b, 0, none⟩) n c) (ms.set k m) := by
  subst hn
  unfold OwnMacs at h ⊢
  rw [List.length_set, ← cells_put ms k m hk]
  exact (World.ownsRow.stored (World.ownsRow.stored (World.ownsRow.stored (World.ownsRow.stored (World.ownsRow.stored h (k * 5) _).1 (k * 5 + 1) _).1 (k * 5 + 2) _).1 (k * 5 + 3) _).1 (k * 5 + 4) _).1
/-- Counting a run of the image of one routine. -/
theorem Met_alone {ms : List Mac} {inp : List Int} {n : Nat} {gv rv iv : Value} {V : World} {base : Nat} (hck : (checkS ms).1 = 0) (hi : ∀ m ∈ ms, m.ok) (hfar : ms.any (farB 1) = false) (hin : inp.length ≤ 30) (hf : n ≤ 900000)
    (hg : GlobsAt V V.heap.size gv kGlobs) (hr : RoutsAt V V.heap.size rv [⟨mainB, codeL ms⟩]) (hiv : V.ownsRow base 3 1 iv inp.length (intV inp)) (ht : Tab V) :
    Calls Tryd.prog 18 #[.agg #[gv, rv], iv, .int .i64 (n : Int)] V fun e w' => ∃ v A c, e = .returned (.tuple #[v, outV (runS [ms] (startS [5, 0, 0] inp) n).told (.slice A (runS [ms] (startS [5, 0, 0] inp) n).told.out.length c), faultV (0, 0)]) ∧
      RowsOwn w' V.heap.size v [metLine (metS [ms] (startS [5, 0, 0] inp) n) 0 ms] ∧
      w'.ownsRow V.heap.size 3 1 (.slice A (runS [ms] (startS [5, 0, 0] inp) n).told.out.length c) (runS [ms] (startS [5, 0, 0] inp) n).told.out.length (intV (runS [ms] (startS [5, 0, 0] inp) n).told.out) ∧ Below V.heap.size V w' := by
  obtain ⟨q1, q2, q3⟩ := alone_run hck hi hfar hin hf
  have hcall := Met_any gv rv iv kGlobs [⟨mainB, codeL ms⟩] inp (n : Int) V hg hr (row_ints hiv rfl) kGlobs_ok (alone_rok hck hi) ht
  have q4 : runL kGlobs [⟨mainB, codeL ms⟩] inp (n : Int) = [ms] := by
    unfold runL
    rw [q1, if_neg (by simp), alone_codes hck hi]
  rw [q1, q2, q3, q4] at hcall
  refine hcall.mono ?_
  rintro e w' ⟨v, ov, rfl, h0, h1, h2⟩
  obtain ⟨A, c, rfl⟩ := row_form h1
  exact ⟨v, A, c, rfl, h0, h1, h2⟩
theorem OwnMacs.form {w : World} {E : Nat} {v : Value} {ms : List Mac} (h : OwnMacs w E v ms) (hp : 0 < ms.length) : ∃ b c, v = .slice (some ⟨b, 0, none⟩) ms.length c ∧ E ≤ b := by
  rcases h.2 with ⟨_, h0⟩ | ⟨b, cap, cur, e, h1, _⟩
  · omega
  · exact ⟨b, cap, e, h1⟩
theorem OwnMacs.cells5 {w : World} {E b c n k : Nat} {ms : List Mac} {m : Mac} (h : OwnMacs w E (.slice (some ⟨b, 0, none⟩) n c) ms) (hm : ms[k]? = some m) :
    (∃ cs, Blk w b 24 cs) ∧ w.cell? ⟨b, k * 5, none⟩ = some (.int .i64 m.op) ∧ w.cell? ⟨b, k * 5 + 1, none⟩ = some (.int .i64 m.dst) ∧ w.cell? ⟨b, k * 5 + 2, none⟩ = some (.int .i64 m.a) ∧ w.cell? ⟨b, k * 5 + 3, none⟩ = some (.int .i64 m.b) ∧ w.cell? ⟨b, k * 5 + 4, none⟩ = some (.int .i64 m.n) := by
  unfold OwnMacs at h
  have hcell := fun j (hj : j < 5) => (World.ownsRow.cells h (g := b) rfl (k * 5 + j))
  have hat := fun j (hj : j < 5) => cellsS_at ms k m hm j hj
  have add : ∀ j, (⟨b, 0, none⟩ : Addr).add j = ⟨b, j, none⟩ := fun j => by unfold Addr.add; split <;> simp_all
  have key : ∀ j u, j < 5 → m.cells[j]? = some u → w.cell? ⟨b, k * 5 + j, none⟩ = some u := fun j u hj hu => by
    have := hcell j hj u ((hat j hj).trans hu)
    rwa [add] at this
  refine ⟨?_, key 0 _ (by omega) rfl, key 1 _ (by omega) rfl, key 2 _ (by omega) rfl, key 3 _ (by omega) rfl, key 4 _ (by omega) rfl⟩
  rcases h.2 with ⟨e, _⟩ | ⟨g, cap, cur, e, _, hh, _⟩
  · cases e
  · cases e; exact ⟨cur, hh⟩
theorem cellsS_one (ms : List Mac) : ∀ u ∈ cellsS ms, u.oneCell' = true := by
  intro u hu
  unfold cellsS at hu
  rw [List.mem_flatten] at hu
  obtain ⟨l, hl, hu⟩ := hu
  obtain ⟨m, _, rfl⟩ := List.mem_map.1 hl
  exact cells_one m u hu
end Go.Proofs.YtkiaffaieniebaaDoor
namespace Go.Proofs.YtkiaffaieniebaaDoor
open Go.RowKit

set_option maxRecDepth 100000 in
set_option maxHeartbeats 2000000 in
theorem MachineUnmet_any (va vi : Value) (la li : List Int) (fz az x1 x2 x3 : Int) (w : World) (ha : IntsAt w w.heap.size va la) (hi : IntsAt w w.heap.size vi li)
    (hia : ∀ x ∈ la, I64 x) (hfz : I64 fz) (haz : I64 az) (h1 : I64 x1) (h2 : I64 x2) (h3 : I64 x3) (ht : Tab w) :
    Calls Tryd.prog 11 #[va, vi, .int .i64 fz, .int .i64 az, .int .i64 x1, .int .i64 x2, .int .i64 x3] w fun e w' => e = .returned (.bool true) ∧ Below w.heap.size w w' := by
  obtain ⟨n, hn⟩ : ∃ n : Nat, fz % 600 = n := ⟨(fz % 600).toNat, by omega⟩
  have hn6 : n < 600 := by omega
  have hcode := CodeOf_any va la 30 30 0 w rfl ha hia (by omega) (by omega) (by omega)
  have hD := dead_code hia
  have hlen := codeOf_len la 30 0
  generalize codeOf la 30 0 = l at hcode hD hlen
  have hl31 : 0 < l.length ∧ l.length ≤ 31 := by rw [hlen]; omega
  have hx8 : (li.take 8).length ≤ 30 := by rw [List.length_take]; omega
  have HN := Lib.hid hn
  have HCode := Lib.hid hcode
  have HD := Lib.hid hD
  have HT := Lib.hid ht
  have HIn := Lib.hid hi
  have HI := Lib.hid (And.intro hfz (And.intro haz (And.intro h1 (And.intro h2 h3))))
  obtain ⟨len, hln⟩ : ∃ len, l.length = len := ⟨_, rfl⟩
  have HLen := Lib.hid hln
  rw [hln] at hl31
  obtain ⟨xs, hxs⟩ : ∃ xs, li.take 8 = xs := ⟨_, rfl⟩
  have HXS := Lib.hid hxs
  rw [hxs] at hx8
  have HX8 := Lib.hid hx8
  obtain ⟨X, hX⟩ : ∃ X, (runS [l] (startS [5, 0, 0] xs) n).told = X := ⟨_, rfl⟩
  obtain ⟨tr, htr⟩ : ∃ t, metS [l] (startS [5, 0, 0] xs) n = t := ⟨_, rfl⟩
  have HXe := Lib.hid hX
  have HTr := Lib.hid htr
  have HX : Hid (∀ (gv rv iv : Value) (V : World) (base : Nat), GlobsAt V V.heap.size gv kGlobs → RoutsAt V V.heap.size rv [⟨mainB, codeL l⟩] → V.ownsRow base 3 1 iv xs.length (intV xs) → Tab V →
    Calls Tryd.prog 18 #[.agg #[gv, rv], iv, .int .i64 (n : Int)] V fun e w' => ∃ v A c, e = .returned (.tuple #[v, outV X (.slice A X.out.length c), faultV (0, 0)]) ∧ RowsOwn w' V.heap.size v [metLine tr 0 l] ∧
      w'.ownsRow V.heap.size 3 1 (.slice A X.out.length c) X.out.length (intV X.out) ∧ Below V.heap.size V w') :=
    Lib.hid fun gv rv iv V base g1 g2 g3 g4 => by rw [← hX, ← htr]; exact Met_alone hD.ck hD.ok hD.far hx8 (by omega) g1 g2 g3 g4
  clear hX htr hcode hD hxs hx8 hlen ha hi haz hfz h1 h2 h3 ht hln hia hn
  go_enter Tryd.func11, Tryd.ntmps11
  go_wp2_with fail
  refine HCode.out.mono ?_
  rintro e w1 ⟨lv, rfl, hl, hb1⟩
  have HL1 := Lib.hid hl
  have HB1 := Lib.hid hb1
  obtain ⟨Al, cl, hlv⟩ := row_form hl
  rw [HLen.out] at hlv
  subst hlv
  clear hl hb1
  go_wp2_with fail
  refine (Picked_any fz 600 _ (by omega) (by omega) HI.out.1).mono ?_
  rintro e w' ⟨rfl, rfl⟩
  rw [HN.out]
  go_wp2_with fail
  refine (Alone_any _ l w1 HL1.out.macs HD.out.ck HD.out.ok).mono ?_
  rintro e w5 ⟨gv, rv, rfl, hgr, hb5⟩
  have HGR := Lib.hid hgr
  have HB5 := Lib.hid (HB1.out.trans (hb5.mono HB1.out.size))
  have HL5 := Lib.hid (HL1.out.below hb5 rfl)
  clear hgr hb5 HL1
  go_wp2_with fail
  refine (Input_any vi li w5 ((HIn.out.below HB5.out (Nat.le_refl _)).more HB5.out.size)).mono ?_
  rintro e w6 ⟨iv, rfl, hu, hb6⟩
  rw [HXS.out] at hu
  obtain ⟨hg6, hr6⟩ := HGR.out w6 (Turn.of_below hb6)
  have HB6 := Lib.hid (HB5.out.trans (hb6.mono HB5.out.size))
  have HL6 := Lib.hid (HL5.out.below hb6 rfl)
  have hcall := HX.out gv rv iv w6 _ (hg6.more hb6.size) (hr6.more hb6.size) hu (HT.out.own HB6.out)
  have HCall := Lib.hid hcall
  clear hg6 hr6 hu hb6 HGR HL5 hcall HX
  go_wp2_with fail
  refine HCall.out.mono ?_
  rintro e w7 ⟨mv, Ax, cx, rfl, hrows, hox, hb7⟩
  unfold outV faultV
  obtain ⟨lx, hlx⟩ : ∃ n, X.out.length = n := ⟨_, rfl⟩
  have HLx := Lib.hid hlx
  rw [hlx] at hox
  rw [hlx]
  have HO7 := Lib.hid hox
  have hA8 : Below w7.heap.size w7 ((w7.alloc (.cells #[.int .i64 X.state, .int .i64 X.value, .slice Ax lx cx, .int .i64 (X.steps : Int)] 28)).alloc (.cells #[.int .i64 0, .int .i64 0] 30)) := ((Below.refl _ _).alloc (Nat.le_refl _) _).alloc (by simp) _
  have HL8 := Lib.hid ((HL6.out.below hb7 rfl).below hA8 rfl)
  have HB7 := Lib.hid (HB6.out.trans (hb7.mono HB6.out.size))
  have HB8 := Lib.hid (HB7.out.trans (hA8.mono HB7.out.size))
  have HO8 := Lib.hid (row_lt HO7.out hA8)
  have HR8 := Lib.hid ((hrows.below hA8 rfl).rows)
  have HK8 := Lib.hid ((Blk.new w7 28 #[.int .i64 X.state, .int .i64 X.value, .slice Ax lx cx, .int .i64 (X.steps : Int)]).alloc (.cells #[.int .i64 0, .int .i64 0] 30))
  have HF8 : Hid (Blk ((w7.alloc (.cells #[.int .i64 X.state, .int .i64 X.value, .slice Ax lx cx, .int .i64 (X.steps : Int)] 28)).alloc (.cells #[.int .i64 0, .int .i64 0] 30)) (w7.heap.size + 1) 30 #[.int .i64 0, .int .i64 0]) := Lib.hid (by
    have := Blk.new (w7.alloc (.cells #[.int .i64 X.state, .int .i64 X.value, .slice Ax lx cx, .int .i64 (X.steps : Int)] 28)) 30 #[.int .i64 0, .int .i64 0]
    simpa using this)
  obtain ⟨AL, cL, hvL, hcL1, hcL2, hcL3⟩ := HR8.out
  have hvL2 : mv = .slice AL 1 cL := hvL
  subst hvL2
  obtain ⟨bL, oL, hAL, hbL, hcell⟩ := hcL3 (Nat.lt_succ_self 0)
  subst hAL
  obtain ⟨rv0, hrc, A0, c0, hrv0, hq1, hq2, hq3⟩ := hcell 0 _ rfl
  have hml : (metLine tr 0 l).length = len := by unfold metLine; rw [List.length_map, List.length_range, HLen.out]
  rw [hml] at hrv0 hq1 hq3
  subst hrv0
  obtain ⟨b0, o0, hA0, hb0, hc0⟩ := hq3 (by omega)
  subst hA0
  rw [Nat.add_zero] at hrc
  have HRC := Lib.hid hrc
  have HC0 := Lib.hid hc0
  clear hA8 hb7 hox HO7 HB7 HL6 HCall hlx HB6 HB5 hrows hvL hcL1 hcL2 hcL3 hcell hrc hc0 hq3 HR8 hml
  go_upto_region 4 with fail
  generalize (w7.alloc (.cells #[.int .i64 X.state, .int .i64 X.value, .slice Ax lx cx, .int .i64 (X.steps : Int)] 28)).alloc (.cells #[.int .i64 0, .int .i64 0] 30) = W8 at *
  generalize w7.heap.size = g7 at *
  have f0 := HF8.out.cell 0
  have hbl : ((len : Int) == (len : Int)) = true := by simp
  go_wp2_with fail
  refine (Sure_any W8 (HT.out.own HB8.out)).mono ?_
  rintro e w9 ⟨rfl, hb9⟩
  have rc := (bcell hb9 hbL).trans HRC.out
  have HB9 := Lib.hid (HB8.out.trans (hb9.mono HB8.out.size))
  have HW9 := Lib.hid hb9
  have HL9 := Lib.hid (HL8.out.below hb9 rfl)
  have HK9 := Lib.hid (HK8.out.below hb9 HK8.out.lt)
  have HO9 := Lib.hid (row_lt HO8.out hb9)
  clear f0 hb9 HL8 HK8 HO8
  go_wp2_with fail
  refine (Picked_any az len _ (by omega) (by omega) HI.out.2.1).mono ?_
  rintro e w' ⟨rfl, rfl⟩
  obtain ⟨k, hk⟩ : ∃ k : Nat, az % (len : Int) = k := ⟨(az % (len : Int)).toNat, by have := Int.emod_nonneg az (show (len : Int) ≠ 0 by omega); omega⟩
  have hkl : k < len := by have := Int.emod_lt_of_pos az (show (0 : Int) < (len : Int) by omega); omega
  rw [hk]
  obtain ⟨ct, hct⟩ : ∃ c : Nat, tr.count (0, k) = c := ⟨_, rfl⟩
  have hc := (bcell HW9.out hb0).trans (HC0.out k (ct : Int) (by
    unfold metLine
    rw [List.getElem?_map, List.getElem?_range (by rw [HLen.out]; exact hkl), Option.map_some, hct]))
  have hk0 : (0 : Int) ≤ (k : Int) := Int.natCast_nonneg _
  have hk1 : (k : Int) < (len : Int) := by omega
  have hw1 : IntKind.i64.wrap ((len : Int) - 1) = (len : Int) - 1 := by rw [IntKind.wrap_i64]; omega
  clear hk hbl
  by_cases hpos : 0 < ct
  · have hgt : (0 : Int) < (ct : Int) := by omega
    clear hct
    go_wp2_with fail
    go_ret
    exact ⟨rfl, HB9.out⟩
  · have hz : ct = 0 := by omega
    subst hz
    have HCt := Lib.hid hct
    clear hct hpos
    by_cases hlast : k = len - 1
    · have hbk : ((k : Int) == (len : Int) - 1) = true := by simp; omega
      clear hlast
      go_wp2_with fail
      go_ret
      exact ⟨rfl, HB9.out⟩
    · have hbk : ((k : Int) == (len : Int) - 1) = false := by simp; omega
      have HLast := Lib.hid hlast
      clear hlast
      obtain ⟨bl, cl', hsl, _⟩ := HL9.out.form (by rw [HLen.out]; omega)
      obtain rfl : Al = some ⟨bl, 0, none⟩ := (Value.slice.inj hsl).1
      have HNews : Hid (0 < len → ∃ ad, (some ⟨bl, 0, none⟩ : Option Addr) = some ad ∧ ∀ j u, (cellsS l)[j]? = some u → w9.cell? (ad.add j) = some u) := Lib.hid fun _ => ⟨_, rfl, fun j u hj => World.ownsRow.cells HL9.out (g := bl) rfl j u hj⟩
      clear hsl
      go_wp2_with (at_builtin; refine app_src rfl _ _ 25 24 rfl (.agg #[.int .i64 0, .int .i64 0, .int .i64 0, .int .i64 0, .int .i64 0]) 5 40 Tryd.underlying25 infoMac rfl (by decide) (by decide) w9.heap.size (.slice none 0 0) 0 [] (by rfl) (World.ownsRow_nil _ _ _ _) (some ⟨bl, 0, none⟩) len cl (cellsS l) (by rfl) (by rw [cellsS_len, HLen.out]) HNews.out (cellsS_one l) (by omega) (Nat.le_refl _) w9.heap.size rfl ?_; intro v4 w4 HA4; have hO4 : OwnMacs w4 w9.heap.size v4 l := (by have := HA4.out.own; rw [Nat.zero_add, List.nil_append, ← HLen.out] at this; exact this); obtain ⟨bo, co, hv4, hbo⟩ := hO4.form (by rw [HLen.out]; omega); rw [HLen.out] at hv4; subst hv4; have HO4 := Lib.hid hO4; have HB4 := Lib.hid HA4.out.below; clear hO4)
      have hI := HI.out
      obtain ⟨m, hm⟩ : ∃ m, macOf x1 x2 x3 (len : Int) 0 = m := ⟨_, rfl⟩
      have hfault : faultS m (len : Int) = 0 := by rw [← hm]; exact macOf_ok _ _ _ _ _ (by omega) (by omega)
      have hmok : m.ok := by rw [← hm]; exact macOf_i64 x1 x2 x3 _ 0 hI.2.2.2.2 (by omega) (by unfold I64; omega) (by omega) (by unfold I64; omega)
      have hm44 : m.op ≠ 44 := by rw [← hm]; exact (opOf_in x1 0).2.2.2 rfl
      have hmac := MacOf_any x1 x2 x3 (len : Int) 0 w4 hI.2.2.1 hI.2.2.2.1 hI.2.2.2.2 (by omega) (by omega) (by omega) (by omega)
      rw [hm] at hmac
      have HMac := Lib.hid hmac
      have hkl' : k < l.length := by rw [HLen.out]; exact hkl
      have hD2 := HD.out.set hkl' (by rw [HLen.out]; exact HLast.out) (by rw [HLen.out]; exact hfault) hmok hm44
      have hun := unmet_run (set_but (l := l) (k := k) m) (startS [5, 0, 0] xs) n (by rw [HTr.out]; exact List.count_eq_zero.1 HCt.out)
      obtain ⟨mk, hmk⟩ : ∃ x, l[k]? = some x := ⟨l[k]'hkl', List.getElem?_eq_getElem _⟩
      have HMk := Lib.hid hmk
      have HY : Hid ((runS [l.set k m] (startS [5, 0, 0] xs) n).told = X) := Lib.hid (by rw [hun]; exact HXe.out)
      have HD2 := Lib.hid hD2
      obtain ⟨op, dst, a, b', nn⟩ := m
      clear hI hm hfault hmok hm44 hmac hkl' hD2 hun hmk
      refine HMac.out.mono ?_
      rintro e w10 ⟨rfl, hb10⟩
      have HB9w := Lib.hid (HB9.out.trans (HB4.out.mono HB9.out.size))
      have hO10 := HO4.out.below hb10 rfl
      obtain ⟨⟨cs, hbk⟩, d0, d1, d2, d3, d4⟩ := hO10.cells5 HMk.out
      have f0 := hbk.frozen (k * 5)
      have f1 := hbk.frozen (k * 5 + 1)
      have f2 := hbk.frozen (k * 5 + 2)
      have f3 := hbk.frozen (k * 5 + 3)
      have f4 := hbk.frozen (k * 5 + 4)
      have HO10 := Lib.hid (hO10.put5 HLen.out hkl ⟨op, dst, a, b', nn⟩)
      have HB10 := Lib.hid (HB9w.out.trans (hb10.mono HB9w.out.size))
      have HW10 := Lib.hid (HB4.out.trans (hb10.mono HB4.out.size))
      have hlo : w.heap.size ≤ bo := Nat.le_trans HB9.out.size hbo
      clear hb10 hO10 hbk HO4 HMac
      simp only [Mac.cells]
      go_upto_region 11 with fail
      have HB11 : Hid (Below w.heap.size w (((((w10.setCell ⟨bo, k * 5, none⟩ (.int .i64 op)).setCell ⟨bo, k * 5 + 1, none⟩ (.int .i64 dst)).setCell ⟨bo, k * 5 + 2, none⟩ (.int .i64 a)).setCell ⟨bo, k * 5 + 3, none⟩ (.int .i64 b')).setCell ⟨bo, k * 5 + 4, none⟩ (.int .i64 nn))) := Lib.hid (((((HB10.out.setCell (p := ⟨bo, k * 5, none⟩) hlo _).setCell (p := ⟨bo, k * 5 + 1, none⟩) hlo _).setCell (p := ⟨bo, k * 5 + 2, none⟩) hlo _).setCell (p := ⟨bo, k * 5 + 3, none⟩) hlo _).setCell (p := ⟨bo, k * 5 + 4, none⟩) hlo _)
      have HW11 : Hid (Below w9.heap.size w9 (((((w10.setCell ⟨bo, k * 5, none⟩ (.int .i64 op)).setCell ⟨bo, k * 5 + 1, none⟩ (.int .i64 dst)).setCell ⟨bo, k * 5 + 2, none⟩ (.int .i64 a)).setCell ⟨bo, k * 5 + 3, none⟩ (.int .i64 b')).setCell ⟨bo, k * 5 + 4, none⟩ (.int .i64 nn))) := Lib.hid (((((HW10.out.setCell (p := ⟨bo, k * 5, none⟩) hbo _).setCell (p := ⟨bo, k * 5 + 1, none⟩) hbo _).setCell (p := ⟨bo, k * 5 + 2, none⟩) hbo _).setCell (p := ⟨bo, k * 5 + 3, none⟩) hbo _).setCell (p := ⟨bo, k * 5 + 4, none⟩) hbo _)
      have HO11 := HO10
      simp only at HO11
      clear HO10 HB10 HW10 d0 d1 d2 d3 d4 f0 f1 f2 f3 f4
      generalize ((((w10.setCell ⟨bo, k * 5, none⟩ (.int .i64 op)).setCell ⟨bo, k * 5 + 1, none⟩ (.int .i64 dst)).setCell ⟨bo, k * 5 + 2, none⟩ (.int .i64 a)).setCell ⟨bo, k * 5 + 3, none⟩ (.int .i64 b')).setCell ⟨bo, k * 5 + 4, none⟩ (.int .i64 nn) = W11 at *
      have HYr : Hid (∀ (gv rv iv : Value) (V : World) (base : Nat), GlobsAt V V.heap.size gv kGlobs → RoutsAt V V.heap.size rv [⟨mainB, codeL (l.set k ⟨op, dst, a, b', nn⟩)⟩] → V.ownsRow base 3 1 iv xs.length (intV xs) → Tab V →
        Calls Tryd.prog 14 #[.agg #[gv, rv], iv, .int .i64 (n : Int)] V fun e w' => ∃ A c, e = .returned (runV X (.slice A X.out.length c) (0, 0)) ∧ w'.ownsRow V.heap.size 3 1 (.slice A X.out.length c) X.out.length (intV X.out) ∧ Below V.heap.size V w') :=
        Lib.hid fun gv rv iv V base h1 h2 h3 h4 => by
          have := Run_alone (n := n) HD2.out.ck HD2.out.ok HD2.out.far HX8.out (by omega) h1 h2 h3 h4
          rw [HY.out] at this
          exact this
      clear HY
      generalize l.set k ⟨op, dst, a, b', nn⟩ = l2 at *
      go_wp2_with fail
      refine (Alone_any _ l2 W11 HO11.out.macs HD2.out.ck HD2.out.ok).mono ?_
      rintro e w12 ⟨gv2, rv2, rfl, hgr, hb12⟩
      have HGR := Lib.hid hgr
      have HB12 := Lib.hid (HB11.out.trans (hb12.mono HB11.out.size))
      have HW12 := Lib.hid (HW11.out.trans (hb12.mono HW11.out.size))
      clear hgr hb12 HO11
      go_wp2_with fail
      refine (Input_any vi li w12 ((HIn.out.below HB12.out (Nat.le_refl _)).more HB12.out.size)).mono ?_
      rintro e w13 ⟨iv2, rfl, hu, hb13⟩
      rw [HXS.out] at hu
      obtain ⟨hg6, hr6⟩ := HGR.out w13 (Turn.of_below hb13)
      have HB13 := Lib.hid (HB12.out.trans (hb13.mono HB12.out.size))
      have HW13 := Lib.hid (HW12.out.trans (hb13.mono HW12.out.size))
      have hcall := HYr.out gv2 rv2 iv2 w13 _ (hg6.more hb13.size) (hr6.more hb13.size) hu (HT.out.own HB13.out)
      have HCall := Lib.hid hcall
      clear hg6 hr6 hu hb13 HGR hcall HYr
      go_wp2_with fail
      refine HCall.out.mono ?_
      rintro e w14 ⟨Ay, cy, rfl, hoy, hb14⟩
      unfold runV outV faultV
      rw [HLx.out] at hoy
      rw [HLx.out]
      have HO14 := Lib.hid hoy
      have hA15 : Below w14.heap.size w14 ((w14.alloc (.cells #[.int .i64 X.state, .int .i64 X.value, .slice Ay lx cy, .int .i64 (X.steps : Int)] 28)).alloc (.cells #[.int .i64 0, .int .i64 0] 30)) := ((Below.refl _ _).alloc (Nat.le_refl _) _).alloc (by simp) _
      have HB14 := Lib.hid (HB13.out.trans (hb14.mono HB13.out.size))
      have HB15 := Lib.hid (HB14.out.trans (hA15.mono HB14.out.size))
      have HW15 := Lib.hid ((HW13.out.trans (hb14.mono HW13.out.size)).trans (hA15.mono (Nat.le_trans HW13.out.size hb14.size)))
      have HO15 := Lib.hid (row_lt HO14.out hA15)
      have HK15 := Lib.hid ((Blk.new w14 28 #[.int .i64 X.state, .int .i64 X.value, .slice Ay lx cy, .int .i64 (X.steps : Int)]).alloc (.cells #[.int .i64 0, .int .i64 0] 30))
      have HF15 : Hid (Blk ((w14.alloc (.cells #[.int .i64 X.state, .int .i64 X.value, .slice Ay lx cy, .int .i64 (X.steps : Int)] 28)).alloc (.cells #[.int .i64 0, .int .i64 0] 30)) (w14.heap.size + 1) 30 #[.int .i64 0, .int .i64 0]) := Lib.hid (by
        have := Blk.new (w14.alloc (.cells #[.int .i64 X.state, .int .i64 X.value, .slice Ay lx cy, .int .i64 (X.steps : Int)] 28)) 30 #[.int .i64 0, .int .i64 0]
        simpa using this)
      clear hA15 hb14 hoy HO14 HB14 HCall HB13 HB12 HW11 HW12 HW13 HB11
      go_upto_region 12 with fail
      generalize (w14.alloc (.cells #[.int .i64 X.state, .int .i64 X.value, .slice Ay lx cy, .int .i64 (X.steps : Int)] 28)).alloc (.cells #[.int .i64 0, .int .i64 0] 30) = W15 at *
      generalize w14.heap.size = g14 at *
      have HK9' := Lib.hid (HK9.out.below HW15.out HK9.out.lt)
      have HIx := Lib.hid (row_ints (row_lt HO9.out HW15.out) HLx.out.symm)
      have HIy := Lib.hid (row_ints HO15.out HLx.out.symm)
      have b1 := HF15.out.cell 0
      have a0 := HK9'.out.cell 0
      have a1 := HK9'.out.cell 1
      have a2 := HK9'.out.cell 2
      have a3 := HK9'.out.cell 3
      have c0 := HK15.out.cell 0
      have c1 := HK15.out.cell 1
      have c2 := HK15.out.cell 2
      have c3 := HK15.out.cell 3
      go_wp2_with fail
      refine (Outcomes_any X X _ _ W15 HIx.out HIy.out).mono ?_
      rintro e w16 ⟨rfl, hb16⟩
      rw [show sameB X X = true by unfold sameB; simp]
      have HB16 := Lib.hid (HB15.out.trans (hb16.mono HB15.out.size))
      clear hb16
      go_wp2_with fail
      go_ret
      exact ⟨rfl, HB16.out⟩
end Go.Proofs.YtkiaffaieniebaaDoor
