/-
  Texts of the claim AsmWholeSays (ArG ArI): what each proves stands at its theorems.
  Conditions: as the theorems say.
-/
import Derived.Test.YtdldochhondifaaGreatDoorVArF
import Derived.Test.YtdldochhondifaaGreatDoorVInkR
import Derived.Test.YtdldochhondifaaGreatDoorVLey
namespace Go.Proofs.YtdldochhondifaaGreatDoor
open Go.RowKit
attribute [local go_sem] Oper.semAt_some

/-- The end of a function whose result lies in a slot, behind loops over iterators. -/
theorem end_slot_m {P : Program} {F : Fence} {n : Nat} {fn : Func} {R : Ending → World → Prop} {a : Act} {w : World} {q : Tmp} {B : Nat} {v : Value} (hM : Marks B a.defers w) (h : fn.results = #[.tmp q]) (hv : a.tmps.getD q undef = v)
    (hR : ∀ w', Stands w w' → Below B w w' → R (.returned v) w') : bodyPostM F n P fn R .ret a w := by
  refine run_results_frame a.defers w hM fun w' hs hk => ⟨v, ?_, hR w' hs (hs.below hk)⟩
  have hv' : a.tmps[q]?.getD undef = v := by simpa using hv
  simp [results, h, hv']
theorem OwnS.stands {w w' : World} {base : Nat} {v : Value} {ss : List (List UInt8)} (h : OwnS w base v ss) (hs : Stands w w') : OwnS w' base v ss := by
  obtain ⟨h1, h2⟩ := h
  refine ⟨h1, ?_⟩
  rcases h2 with h2 | ⟨g, cap, cur, e1, hg, hh, h3⟩
  · exact .inl h2
  · exact .inr ⟨g, cap, cur, e1, hg, hs.same _ _ hh (by intro l e; cases e), h3⟩
theorem OwnS.more {w : World} {base B : Nat} {v : Value} {ss : List (List UInt8)} (h : OwnS w base v ss) (hB : B ≤ base) : OwnS w B v ss := by
  obtain ⟨h1, h2⟩ := h
  refine ⟨h1, ?_⟩
  rcases h2 with h2 | ⟨g, cap, cur, e1, hg, h3⟩
  · exact .inl h2
  · exact .inr ⟨g, cap, cur, e1, by omega, h3⟩
/-- The loop's memory: the box go holds the row of what has come; nothing of before the loop has changed but it. -/
def LinesNow (B go : Nat) (W0 : World) (pre : List Pc) (W : World) : Prop := ∃ v, OwnS W W0.heap.size v ((pcs pre).map cleanS) ∧ Blk W go 36 #[v] ∧ BelowBut go B W0 W
theorem LinesNow.grown {B go : Nat} {W0 A C : World} {pre : List Pc} {row : Option Nat} (h : LinesNow B go W0 pre A) (hg : A.grownBy C row) (hr : ∀ r, row = some r → W0.heap.size ≤ r ∧ ∃ o : Obj, A.heap[r]? = some o ∧ o.isCells = false) (hB : B ≤ W0.heap.size) : LinesNow B go W0 pre C := by
  obtain ⟨v, h1, h2, h3⟩ := h
  refine ⟨v, own_at h1 fun k hk => hg.block k (own_lt h1 hk) fun e => ?_, (hg.block go h2.lt fun e => ?_).trans h2, h3.grown hg (by have := h3.size; omega) fun r e => .inl (by have := (hr r e).1; omega)⟩
  · obtain ⟨_, o, ho, hc⟩ := hr k e.symm
    rcases h1.2 with ⟨rfl, _⟩ | ⟨g, cap, cur, rfl, _, hh, _⟩
    · cases hk
    · cases hk
      rw [hh] at ho
      cases ho
      cases hc
  · obtain ⟨_, o, ho, hc⟩ := hr go e.symm
    rw [show A.heap[go]? = _ from h2] at ho
    cases ho
    cases hc
theorem LinesNow.set {B go gs o : Nat} {W0 A : World} {pre : List Pc} {u : Value} (h : LinesNow B go W0 pre A) (hs : gs < W0.heap.size) (hg : go ≠ gs) (hB : B ≤ gs) : LinesNow B go W0 pre (A.setCell ⟨gs, o, none⟩ u) := by
  obtain ⟨v, h1, h2, h3⟩ := h
  refine ⟨v, own_at h1 fun k hk => ?_, h2.far hg _, h3.trans ⟨rfl, rfl, rfl, by simp, fun k hk _ => Below.heap_setCell A ⟨gs, o, none⟩ u k (by show k ≠ gs; omega)⟩⟩
  have := own_block_ge h1 k hk
  exact Below.heap_setCell A ⟨gs, o, none⟩ u k (by show k ≠ gs; omega)
theorem keepsFrom_row {w w' : World} {base size n B : Nat} {e : TypeId} {v : Value} {xs : List Value} (hg : w.grownBy w' v.ownBlock) (ho : w.ownsRow base e size v n xs) : KeepsFrom B w w' :=
  ⟨hg.size, fun k o _ hk hc => (hg.block k (Array.getElem?_eq_some_iff.1 hk).1 (fun e => by
    rcases ho.2 with ⟨rfl, _⟩ | ⟨g, cap, cur, rfl, _, hh, _⟩
    · cases e
    · cases e
      rw [hh] at hk
      cases hk
      cases hc)).trans hk⟩
theorem BelowBut.narrow {g S S' : Nat} {a b : World} (h : BelowBut g S a b) (hS : S' ≤ S) : BelowBut g S' a b := ⟨h.os, h.tape, h.output, h.size, fun k hk hg => h.block k (Nat.lt_of_lt_of_le hk hS) hg⟩
/-- 'out = append(out, trimmed)' in the loop's body: what has yielded, and the world. -/
structure AddC (V : World) (H go : Nat) (y0 v : Value) (outs : List (List UInt8)) (x : List UInt8) (σ : Nat → Option Value) (W : World) : Prop where
  s0 : ∀ u, σ 0 = some u → u = v
  s1 : ∀ u, σ 1 = some u → u = y0
  s2 : ∀ u, σ 2 = some u → u = .string (mkS x)
  s3 : ∀ u, σ 3 = some u → σ 4 = none → ∃ g, u = .slice (some ⟨g, 0, none⟩) 1 1 ∧ Blk W g 9 #[.string (mkS x)]
  pre : σ 4 = none → OwnS W H v outs ∧ Blk W go 36 #[v]
  mid : ∀ u, σ 4 = some u → σ 5 = none → OwnS W H u (outs ++ [x]) ∧ Blk W go 36 #[v]
  fin : σ 5 ≠ none → ∃ u, OwnS W H u (outs ++ [x]) ∧ Blk W go 36 #[u]
  keep : KeepsFrom H V W ∧ BelowBut go H V W
  low : H ≤ W.heap.size
section
variable {V W W' : World} {H go : Nat} {y0 v : Value} {outs : List (List UInt8)} {x : List UInt8} {σ : Nat → Option Value}
theorem AddC.start (ho : OwnS W H v outs) (hg : Blk W go 36 #[v]) (hk : KeepsFrom H V W ∧ BelowBut go H V W) (hl : H ≤ W.heap.size) : AddC V H go y0 v outs x (fun _ => none) { W with drawn := W.drawn + 1 } :=
  ⟨fun _ h => (by cases h), fun _ h => (by cases h), fun _ h => (by cases h), fun _ h => (by cases h), fun _ => ⟨ho, hg⟩, fun _ h => (by cases h), fun h => absurd rfl h, ⟨⟨hk.1.size, hk.1.same⟩, ⟨hk.2.os, hk.2.tape, hk.2.output, hk.2.size, hk.2.block⟩⟩, hl⟩
theorem AddC.load (h : AddC V H go y0 v outs x σ W) : AddC V H go y0 v outs x (upd σ 0 v) W := by
  refine ⟨fun u e => ?_, fun u e => h.s1 u ((upd_ne (by decide)).symm.trans e), fun u e => h.s2 u ((upd_ne (by decide)).symm.trans e), fun u e e4 => h.s3 u ((upd_ne (by decide)).symm.trans e) ((upd_ne (by decide)).symm.trans e4), fun e => h.pre ((upd_ne (by decide)).symm.trans e), fun u e e5 => h.mid u ((upd_ne (by decide)).symm.trans e) ((upd_ne (by decide)).symm.trans e5), fun e => h.fin (by rwa [upd_ne (by decide)] at e), h.keep, h.low⟩
  rw [upd_same] at e
  cases e
  rfl
theorem AddC.move (h : AddC V H go y0 v outs x σ W) (y : Value) (hy : y = y0) : AddC V H go y0 v outs x (upd σ 1 y) W :=
  ⟨fun u e => h.s0 u ((upd_ne (by decide)).symm.trans e), fun u e => (by rw [upd_same] at e; cases e; exact hy), fun u e => h.s2 u ((upd_ne (by decide)).symm.trans e), fun u e e4 => h.s3 u ((upd_ne (by decide)).symm.trans e) ((upd_ne (by decide)).symm.trans e4), fun e => h.pre ((upd_ne (by decide)).symm.trans e), fun u e e5 => h.mid u ((upd_ne (by decide)).symm.trans e) ((upd_ne (by decide)).symm.trans e5), fun e => h.fin (by rwa [upd_ne (by decide)] at e), h.keep, h.low⟩
theorem AddC.kept (h : AddC V H go y0 v outs x σ W) (hH : go < H) (hb : Below W.heap.size W W') : (KeepsFrom H V W' ∧ BelowBut go H V W') ∧ H ≤ W'.heap.size :=
  ⟨⟨h.keep.1.trans (keepsFrom_of_but (but_of hb) (Nat.le_refl _) hH), h.keep.2.trans ⟨hb.os, hb.tape, hb.output, hb.size, fun k hk _ => hb.block k (Nat.lt_of_lt_of_le hk h.low)⟩⟩, Nat.le_trans h.low hb.size⟩
theorem AddC.call (h : AddC V H go y0 v outs x σ W) (h3 : σ 3 = none) (h4 : σ 4 = none) (h5 : σ 5 = none) (hH : go < H) (hb : Below W.heap.size W W') : AddC V H go y0 v outs x (upd σ 2 (.string (mkS x))) W' := by
  obtain ⟨p1, p2⟩ := h.pre h4
  refine ⟨fun u e => h.s0 u ((upd_ne (by decide)).symm.trans e), fun u e => h.s1 u ((upd_ne (by decide)).symm.trans e), fun u e => ?_, fun u e _ => (by rw [upd_ne (by decide), h3] at e; cases e), fun _ => ⟨p1.below hb, p2.below hb p2.lt⟩, fun u e _ => (by rw [upd_ne (by decide), h4] at e; cases e), fun e => absurd (by rw [upd_ne (by decide)]; exact h5) e, (h.kept hH hb).1, (h.kept hH hb).2⟩
  rw [upd_same] at e
  cases e
  rfl
theorem AddC.build (h : AddC V H go y0 v outs x σ W) (h4 : σ 4 = none) (h5 : σ 5 = none) (hH : go < H) : AddC V H go y0 v outs x (upd σ 3 (.slice (some ⟨W.heap.size, 0, none⟩) 1 1)) (W.alloc (.cells #[.string (mkS x)] 9)) := by
  obtain ⟨p1, p2⟩ := h.pre h4
  have hb : Below W.heap.size W (W.alloc (.cells #[.string (mkS x)] 9)) := (Below.refl _ _).alloc (Nat.le_refl _) _
  refine ⟨fun u e => h.s0 u ((upd_ne (by decide)).symm.trans e), fun u e => h.s1 u ((upd_ne (by decide)).symm.trans e), fun u e => h.s2 u ((upd_ne (by decide)).symm.trans e), fun u e _ => ?_, fun _ => ⟨p1.below hb, p2.below hb p2.lt⟩, fun u e _ => (by rw [upd_ne (by decide), h4] at e; cases e), fun e => absurd (by rw [upd_ne (by decide)]; exact h5) e, (h.kept hH hb).1, (h.kept hH hb).2⟩
  rw [upd_same] at e
  cases e
  exact ⟨_, rfl, Blk.new _ _ _⟩
theorem AddC.app (h : AddC V H go y0 v outs x σ W) (h4 : σ 4 = none) (h5 : σ 5 = none) {u' : Value} {K : Nat} (hap : Appended W H 9 1 v (outs.length + 1) ((outs.map fun l => Value.string (mkS l)) ++ [.string (mkS x)]) K u' W') : AddC V H go y0 v outs x (upd σ 4 u') W' := by
  obtain ⟨p1, p2⟩ := h.pre h4
  have hgo := hap.blk p1 p2 (by decide)
  refine ⟨fun u e => h.s0 u ((upd_ne (by decide)).symm.trans e), fun u e => h.s1 u ((upd_ne (by decide)).symm.trans e), fun u e => h.s2 u ((upd_ne (by decide)).symm.trans e), fun u e e4 => (by rw [upd_same] at e4; cases e4), fun e => (by rw [upd_same] at e; cases e), fun u e _ => ?_, fun e => absurd (by rw [upd_ne (by decide)]; exact h5) e,
    ⟨h.keep.1.trans (keepsFrom_row hap.2.2.1 p1), h.keep.2.trans ⟨hap.below.os, hap.below.tape, hap.below.output, hap.below.size, fun k hk _ => hap.below.block k hk⟩⟩, Nat.le_trans h.low hap.below.size⟩
  rw [upd_same] at e
  cases e
  exact ⟨OwnS.snoc hap.own, hgo⟩
theorem AddC.store (h : AddC V H go y0 v outs x σ W) (h5 : σ 5 = none) {u' y : Value} (h4 : σ 4 = some u') (hH : go < H) : AddC V H go y0 v outs x (upd σ 5 y) (W.setCell ⟨go, 0, none⟩ u') := by
  obtain ⟨p1, p2⟩ := h.mid u' h4 h5
  refine ⟨fun u e => h.s0 u ((upd_ne (by decide)).symm.trans e), fun u e => h.s1 u ((upd_ne (by decide)).symm.trans e), fun u e => h.s2 u ((upd_ne (by decide)).symm.trans e), fun u _ e4 => (by rw [upd_ne (by decide), h4] at e4; cases e4), fun e => (by rw [upd_ne (by decide), h4] at e; cases e), fun u _ e5 => (by rw [upd_same] at e5; cases e5), fun _ => ⟨u', own_at p1 fun k hk => Below.heap_setCell W ⟨go, 0, none⟩ u' k ?_, p2.set_ 0 u'⟩,
    ⟨h.keep.1.trans ⟨by simp, fun k o hk ho _ => (Below.heap_setCell W ⟨go, 0, none⟩ u' k (by show k ≠ go; omega)).trans ho⟩, h.keep.2.trans (BelowBut.set _ _ _ _ _)⟩, by simp; exact h.low⟩
  have := own_block_ge p1 k hk
  show k ≠ go
  omega
end
set_option maxRecDepth 100000 in
set_option maxHeartbeats 4000000 in
theorem lines_any (t : List UInt8) (ht : t.length ≤ 1000000) (w : World) (hs : Std w) :
    Calls Tryz.prog 24 #[.string (mkS t)] w fun e w' => TextsPost w.heap.size (linesL t) e w' ∧ Below w.heap.size w w' := by
  have HT := Lib.hid ht
  have HS := Lib.hid hs
  have HB0 : Hid (Below w.heap.size w (w.alloc (.cells #[.slice none 0 0] 36))) := Lib.hid ((Below.refl _ _).alloc (Nat.le_refl _) _)
  have HG0 : Hid (Blk (w.alloc (.cells #[.slice none 0 0] 36)) w.heap.size 36 #[.slice none 0 0]) := Lib.hid (Blk.new _ _ _)
  clear hs
  refine (callsIn_wide (n := 3)).1 (callsIn_of_wp_marks Tryz.func24 rfl trivial (wpIn_wide.2 ?_) rfl)
  simp only [Tryz.ntmps24, List.size_toArray, List.length_cons, List.length_nil, Nat.reduceAdd, Nat.reduceSub, Array.replicate_succ, Array.replicate_zero, List.push_toArray, List.append_toArray, List.nil_append, List.cons_append]
  go_upto_region 2 with fail
  generalize w.alloc (.cells #[.slice none 0 0] 36) = W0 at *
  go_wp2_with fail
  refine (SplitSeq_any t 10 W0).mono ?_
  rintro e W1 ⟨b1, b2, b3, rfl, h1, h2, h3, n12, g1, g2, g3, hb⟩
  obtain ⟨go, hgo⟩ : ∃ go, w.heap.size = go := ⟨_, rfl⟩
  have hgl : go < W0.heap.size := by rw [← hgo]; exact HG0.out.lt
  have HG1 : Hid (Blk W1 go 36 #[.slice none 0 0]) := Lib.hid (by rw [← hgo]; exact HG0.out.below hb HG0.out.lt)
  have HB1 := Lib.hid (HB0.out.trans (hb.mono HB0.out.size))
  have HSeq := Lib.hid (split1_in b1 b2 b3 go 10 t HT.out W1 h1 h2 h3 n12 (by omega) (by omega) (by omega))
  have HL : Hid (b2 < W1.heap.size) := Lib.hid h2.lt
  have Hgo := Lib.hid hgo
  have Hb2 : Hid (go < b2) := Lib.hid (by omega)
  rw [hgo]
  clear h1 h2 h3 n12 g1 g2 g3 hb HG0 HB0 hgl hgo ht
  go_wp2_with fail
  refine wp_range_writes (p := 7) (q := 4) go b2 (gf := 138) rfl (fun a W => MuLone.run_callFunc_enter Tryz.func138 (by kernel_rfl) rfl a W)
    HSeq.out HL.out (fun pre W => pre.length ≤ 1000001 ∧ LinesNow go go W1 pre W)
    (fun s A C row hh hg hr => ⟨hh.1, hh.2.grown hg hr (by have := HG1.out.lt; omega)⟩) (fun pre A o u hh => ⟨hh.1, hh.2.set HL.out (by have := Hb2.out; omega) (by have := Hb2.out; omega)⟩)
    ⟨by simp, _, OwnS.nil _ _, HG1.out, BelowBut.refl _ _ _⟩ ?assign ?body ?done
  case assign =>
    intro lp v Wx K hK
    simp only [List.set_cons_succ, List.set_cons_zero] at hK ⊢
    gi_wp2_with fail
    exact hK
  case body =>
    rintro lp pre x Wx hsz ⟨_, v, hv, hg, hb⟩ hlen
    simp only [List.set_cons_succ, List.set_cons_zero]
    obtain ⟨x, hx⟩ := x
    simp only
    have hpl : pre.length ≤ 1000000 := by have := splitC_len 10 t []; have := HT.out; omega
    have hz : go ≤ Wx.heap.size := by have := HG1.out.lt; omega
    have HBx : Hid (Below go w Wx) := Lib.hid (by
      have h1 := HB1.out
      rw [Hgo.out] at h1
      exact h1.trans (hb.below (Nat.le_refl _) (Nat.le_refl _)))
    have HSx : Hid (Std Wx) := Lib.hid (HS.out.below (by rw [Hgo.out]; exact HBx.out) HS.out.big (by rw [Hgo.out]; exact hz))
    have HV := Lib.hid hv
    have HGx := Lib.hid hg
    have HBb := Lib.hid hb
    have Hsz := Lib.hid hsz
    have hc := Cut_any x (by omega) Wx HSx.out
    have HC := Lib.hid hc
    clear hv hg hb hlen hz hc hsz
    gi_wp2_with fail
    refine ⟨trivial, (CallsIn.inRound lp (callsIn_wide.2 HC.out)).mono ?_⟩
    rintro e W2 ⟨⟨y, z, rfl⟩, hb2⟩
    have HV2 := Lib.hid (HV.out.below hb2)
    have HG2 := Lib.hid (HGx.out.below hb2 HGx.out.lt)
    have HS2 := Lib.hid (HSx.out.own hb2)
    have HB2 := Lib.hid hb2
    clear hb2 HC
    gi_wp2_with fail
    have HA0 : Hid (AddC Wx W1.heap.size go (.string (mkS (cutS x))) v ((pcs pre).map cleanS) (cleanS x) (fun _ => none) { W2 with drawn := W2.drawn + 1 }) := Lib.hid (AddC.start HV2.out HG2.out ⟨keepsFrom_of_but (but_of HB2.out) (Nat.le_refl _) HG1.out.lt, ⟨HB2.out.os, HB2.out.tape, HB2.out.output, HB2.out.size, fun k hk _ => HB2.out.block k (Nat.lt_of_lt_of_le hk Hsz.out)⟩⟩ (Nat.le_trans Hsz.out HB2.out.size))
    have HStd : Hid (∀ Wa, Below W2.heap.size W2 Wa → Std Wa) := Lib.hid fun Wa hb => HS2.out.own hb
    have hol : (pcs pre).length = pre.length := pcs_len pre
    have HCl : Hid ((cutS x).length ≤ 9223372036854775807) := Lib.hid (by have := cut_len x; omega)
    have HSt : Hid (∀ W, BelowBut go W1.heap.size Wx W → Std W) := Lib.hid fun W hb => HSx.out.below (hb.below (B := go) (Nat.le_of_lt HG1.out.lt) (Nat.le_refl _)) (by rw [← Hgo.out]; exact HS.out.big) (Nat.le_trans (Nat.le_trans (Nat.le_of_lt HG1.out.lt) Hsz.out) hb.size)
    refine wpIn_region_keepsL (AddC Wx W1.heap.size go (.string (mkS (cutS x))) v ((pcs pre).map cleanS) (cleanS x)) (by kernel_rfl) (by kernel_rfl) (fun i o h c => ?_) HA0.out ?_ ?_
    · rcases i with _ | _ | _ | _ | _ | _ | i <;> simp at h <;> subst h <;> simp
    · refine ⟨⟨rfl, ?_⟩, ⟨rfl, ?_⟩, ⟨rfl, ?_⟩, ⟨rfl, ?_⟩, ⟨rfl, ?_⟩, ⟨rfl, ?_⟩, trivial⟩
      · refine KeepsL.mk (fun j => j == 4 || j == 5) ?_ ?_
        · kernel_rfl
        intro σ vs w' hvs hcl hC hk hdep
        simp only [putO, Nat.reduceAdd, Nat.reduceBEq, Bool.or_self, Bool.or_true, Bool.or_false, Bool.false_eq_true, if_true, if_false, Act.put, List.setIfInBounds_toArray, List.set_cons_succ, List.set_cons_zero]
        have HC := Lib.hid hC
        have HD := Lib.hid hdep
        have HL := Lib.hid hcl
        have HK := Lib.hid hk
        clear hC hdep hcl hk hvs
        have n4 := not_done HL.out HK.out (j := 4) rfl rfl
        have c0 := (HC.out.pre n4).2.cell 0
        clear n4
        go_simp
        refine ⟨?_⟩
        exact HC.out.load
      · refine KeepsL.mk (fun j => j == 2 || j == 5) ?_ ?_
        · kernel_rfl
        intro σ vs w' hvs hcl hC hk hdep
        simp only [putO, Nat.reduceAdd, Nat.reduceBEq, Bool.or_self, Bool.or_true, Bool.or_false, Bool.false_eq_true, if_true, if_false, Act.put, List.setIfInBounds_toArray, List.set_cons_succ, List.set_cons_zero]
        have HC := Lib.hid hC
        have HD := Lib.hid hdep
        have HL := Lib.hid hcl
        have HK := Lib.hid hk
        clear hC hdep hcl hk hvs
        go_simp
        refine ⟨?_⟩
        exact HC.out.move _ rfl
      · refine KeepsL.mk (fun j => j == 3 || j == 4 || j == 5) ?_ ?_
        · kernel_rfl
        intro σ vs w' hvs hcl hC hk hdep
        simp only [putO, Nat.reduceAdd, Nat.reduceBEq, Bool.or_self, Bool.or_true, Bool.or_false, Bool.false_eq_true, if_true, if_false, Act.put, List.setIfInBounds_toArray, List.set_cons_succ, List.set_cons_zero]
        have HC := Lib.hid hC
        have HD := Lib.hid hdep
        have HL := Lib.hid hcl
        have HK := Lib.hid hk
        clear hC hdep hcl hk hvs
        have n3 := Lib.hid (not_done HL.out HK.out (j := 3) rfl rfl)
        have n4 := Lib.hid (not_done HL.out HK.out (j := 4) rfl rfl)
        have n5 := Lib.hid (not_done HL.out HK.out (j := 5) rfl rfl)
        have e1 := HC.out.s1 _ (HD.out ⟨1, .data⟩ (by simp) rfl)
        rw [e1]
        have HT := Lib.hid (Trim_any (cutS x) HCl.out w' (HSt.out _ HC.out.keep.2))
        clear e1
        go_simp
        refine ⟨?_⟩
        refine HT.out.mono ?_
        rintro e W4 ⟨rfl, hb⟩
        exact ⟨_, rfl, HC.out.call n3.out n4.out n5.out HG1.out.lt hb⟩
      · refine KeepsL.mk (fun j => j == 4 || j == 5) ?_ ?_
        · kernel_rfl
        intro σ vs w' hvs hcl hC hk hdep
        simp only [putO, Nat.reduceAdd, Nat.reduceBEq, Bool.or_self, Bool.or_true, Bool.or_false, Bool.false_eq_true, if_true, if_false, Act.put, List.setIfInBounds_toArray, List.set_cons_succ, List.set_cons_zero]
        have HC := Lib.hid hC
        have HD := Lib.hid hdep
        have HL := Lib.hid hcl
        have HK := Lib.hid hk
        clear hC hdep hcl hk hvs
        have n4 := Lib.hid (not_done HL.out HK.out (j := 4) rfl rfl)
        have n5 := Lib.hid (not_done HL.out HK.out (j := 5) rfl rfl)
        have e2 := HC.out.s2 _ (HD.out ⟨2, .data⟩ (by simp) rfl)
        rw [e2]
        clear e2
        go_simp
        refine ⟨?_⟩
        exact HC.out.build n4.out n5.out HG1.out.lt
      · refine KeepsL.mk (fun j => j == 5) ?_ ?_
        · kernel_rfl
        intro σ vs w' hvs hcl hC hk hdep
        simp only [putO, Nat.reduceAdd, Nat.reduceBEq, Bool.false_eq_true, if_true, if_false, Act.put, List.setIfInBounds_toArray, List.set_cons_succ, List.set_cons_zero]
        have HC := Lib.hid hC
        have HD := Lib.hid hdep
        have HL := Lib.hid hcl
        have HK := Lib.hid hk
        clear hC hdep hcl hk hvs
        have n5 := Lib.hid (not_done HL.out HK.out (j := 5) rfl rfl)
        have e0 := HC.out.s0 _ (HD.out ⟨0, .data⟩ (by simp) rfl)
        obtain ⟨g, e3, hg⟩ := HC.out.s3 _ (HD.out ⟨3, .data⟩ (by simp) rfl) HK.out
        rw [e0, e3]
        have hn : ∀ j u, ([.string (mkS (cleanS x))] : List Value)[j]? = some u → w'.cell? ((⟨g, 0, none⟩ : Addr).add j) = some u := fun j u hj => by
          have e2 : (⟨g, 0, none⟩ : Addr).add j = ⟨g, j, none⟩ := by unfold Addr.add; split <;> simp_all
          rw [e2, hg.cell]
          simpa using hj
        obtain ⟨B, cap, w3, hr, hap⟩ := run_app_src (P := Tryz.prog) (w := w') 36 36 9 (.string ⟨#[]⟩) 1 16 Tryz.underlying36 infoStr rfl (by decide) (by decide) _ _ _ _ (HC.out.pre HK.out).1 (some ⟨g, 0, none⟩) 1 1 _ (by rfl) (fun _ => ⟨_, rfl, hn⟩) (fun u hu => by simp at hu; subst hu; rfl) (by rw [List.length_map, hol]; omega) HC.out.low
        rw [exec_app (.tmp 14) (.tmp 17) 36 36 rfl _ _ _ _ rfl rfl hr]
        refine ⟨?_⟩
        exact HC.out.app HK.out n5.out hap
      · refine KeepsL.mk (fun j => false) ?_ ?_
        · kernel_rfl
        intro σ vs w' hvs hcl hC hk hdep
        simp only [putO, Nat.reduceAdd, Bool.false_eq_true, if_false, Act.put, List.setIfInBounds_toArray, List.set_cons_succ, List.set_cons_zero]
        have HC := Lib.hid hC
        have HD := Lib.hid hdep
        have HL := Lib.hid hcl
        have HK := Lib.hid hk
        clear hC hdep hcl hk hvs
        obtain ⟨u, hu⟩ : ∃ u, σ 4 = some u := ⟨_, HD.out ⟨4, .data⟩ (by simp) rfl⟩
        have e4 : vs 4 = u := by
          have := HD.out ⟨4, .data⟩ (by simp) rfl
          simp only at this
          rw [hu] at this
          cases this
          rfl
        rw [e4]
        have Hu := Lib.hid hu
        have hgb := (HC.out.mid u hu HK.out).2
        have c0 := hgb.cell 0
        have f0 := hgb.frozen 0
        obtain ⟨A, c, hA⟩ := row_form (HC.out.mid u hu HK.out).1
        obtain ⟨nn, hnn⟩ : ∃ nn, (List.map cleanS (pcs pre) ++ [cleanS x]).length = nn := ⟨_, rfl⟩
        rw [hnn] at hA
        subst hA
        clear hu e4 hgb hnn
        go_simp
        refine ⟨?_⟩
        exact HC.out.store HK.out Hu.out HG1.out.lt
    · intro σ vs W3 hC hvs
      have HC := Lib.hid hC
      have HE := Lib.hid (hC.fin (by rw [hvs 5 (by decide)]; simp))
      clear hC hvs
      gi_wp2_with fail
      obtain ⟨u, h1, h2⟩ := HE.out
      exact ⟨HC.out.keep.1, HC.out.keep.2, u, by rw [pcs_snoc, List.map_append]; exact h1, h2, HBb.out.trans (HC.out.keep.2.narrow (Nat.le_of_lt HG1.out.lt))⟩
  case done =>
    rintro D xs Wd hD hxs ⟨_, v, hv, hg, hb⟩ hK
    have HM : Hid (Marks W1.heap.size [{ target := .collected D, args := #[] }] Wd) := Lib.hid ((Marks.nil W1.heap.size W1).push (Nat.le_refl _) hD hK (fun D' h1 h2 => absurd (Array.getElem?_eq_some_iff.1 h2).1 (by omega)))
    have HV : Hid (OwnS Wd W1.heap.size v (linesL t)) := Lib.hid (by rw [hxs] at hv; exact hv)
    have c0 := hg.cell 0
    have HBd : Hid (Below go w Wd) := Lib.hid (by
      have h1 := HB1.out
      rw [Hgo.out] at h1
      exact h1.trans (hb.below (Nat.le_refl _) (Nat.le_refl _)))
    clear hv hg hb hK hxs hD
    go_wp2_with fail
    refine end_slot_m (v := v) HM.out rfl rfl ?_
    intro w' hs hb
    exact ⟨⟨v, rfl, (HV.out.stands hs).more (by have := HG1.out.lt; have := Hgo.out; omega)⟩, by have h := HBd.out.trans (hb.mono (Nat.le_of_lt HG1.out.lt)); rw [← Hgo.out] at h; exact h⟩
end Go.Proofs.YtdldochhondifaaGreatDoor
namespace Go.Proofs.YtdldochhondifaaGreatDoor
open Go.RowKit
attribute [local go_sem] Oper.semAt_some

/-- append's run at one element that has just been laid. -/
theorem run_app_one {P : Program} {w : World} (t ty e : TypeId) (z : Value) (size bytes : Nat) (ht : P.underlying t = some (.slice e)) (hinfo : (P.info? e).map (fun i => (i.zero, i.size, i.bytes)) = some (some z, size, bytes)) (hzs : z.cells.size = size) (hsz : 0 < size) (hby : bytes ≤ 10000)
    (base : Nat) (v : Value) (n : Nat) (xs : List Value) (hown : w.ownsRow base e size v n xs) (news : List Value) (hl : news.length = size) (h1 : ∀ u ∈ news, u.oneCell' = true) (hlen : n ≤ 3000000000) (hbase : base ≤ w.heap.size) :
    ∃ B cap w', (Builtin.append_ #[t, t] ty #[v, .slice (some ⟨w.heap.size, 0, none⟩) 1 1]).run P (w.alloc (.cells news.toArray e)) = .ok (.slice B (n + 1) cap) w' ∧ Appended w base e size v (n + 1) (xs ++ news) (w.heap.size + 1) (.slice B (n + 1) cap) w' := by
  obtain ⟨B, cap, w', hr, a1, a2, a3, a4⟩ := run_app_src (P := P) (w := w.alloc (.cells news.toArray e)) t ty e z size bytes ht hinfo hzs hsz hby base v n xs (hown.alloc _) (some ⟨w.heap.size, 0, none⟩) 1 1 news (by omega) (fun _ => ⟨_, rfl, cells_new w news e _ rfl⟩) h1 (by omega) (by simp; omega)
  rw [World.size_alloc] at a4
  have hg := grown_of_alloc a3
  exact ⟨B, cap, w', hr, a1, grown_below hg hbase (own_block_ge hown), hg, a4⟩
/-- What a label's part leaves. -/
def GoalPost (w : World) (base bx : Nat) (nm : List UInt8) (ms : List Mac) (labs : List (Int × Nat)) (gs ks : List (Nat × List UInt8)) (cv : Value) (lb : Nat) (gv kv : Value) (g : Option Int) (e : Ending) (w' : World) : Prop :=
  e = .returned (.bool g.isSome) ∧ OutS (InSec bx lb cv gv kv) w w' ∧ ∀ n, g = some n → ∃ gv', SecM w' base bx nm ms labs (gs ++ [(ms.length, Lib.itoa n)]) ks cv lb gv' kv ∧ ∀ k, InSec bx lb cv gv' kv k → InSec bx lb cv gv kv k ∨ w.heap.size ≤ k
theorem digI_itoa {s : List UInt8} {k : Nat} {n : Int} (h : digI s k = some n) : s = Lib.itoa n := by
  unfold digI at h
  split at h
  · cases hn : numI s with
    | none => rw [hn] at h; cases h
    | some m =>
      rw [hn] at h
      simp only at h
      split at h
      · cases h
        exact (numI_some.1 hn).2.symm
      · cases h
  · cases h
/-- The label behind its letter. -/
theorem label_cut (s : List UInt8) (hs : s.length ≤ 281474976710656) (w : World) : ∃ rest isB, rest.length ≤ 281474976710656 ∧ Hid (labI s = if isB = true then digI rest 4 else none) ∧
    Calls Tryz.prog 57 #[.string (mkS s), .string ⟨#[76]⟩] w fun e w' => e = .returned (.tuple #[.string (mkS rest), .bool isB]) ∧ w' = w := by
  have hC := Tryz.strings_CutPrefix (mkS s) ⟨#[76]⟩ w
  rw [mkS_list, show (⟨#[76]⟩ : ByteArray).data.toList = [76] from rfl, (prefix_one s 76).1, (prefix_one s 76).2] at hC
  by_cases h1 : s.head? = some 76
  · obtain ⟨r, rfl⟩ : ∃ r, s = 76 :: r := by
      cases s with
      | nil => simp at h1
      | cons c r =>
        have hc : c = 76 := by simpa using h1
        exact ⟨r, by rw [hc]⟩
    rw [if_pos h1, decide_eq_true h1, List.tail_cons] at hC
    exact ⟨r, true, by rw [List.length_cons] at hs; omega, Lib.hid (by rw [if_pos rfl, labI_hit]), hC⟩
  · rw [if_neg h1, decide_eq_false h1] at hC
    exact ⟨s, false, hs, Lib.hid (by rw [if_neg (by simp), labI_miss h1]), hC⟩
section
variable {base bx lb : Nat} {nm : List UInt8} {ms : List Mac} {labs : List (Int × Nat)} {gs ks : List (Nat × List UInt8)} {cv gv kv : Value}
set_option maxRecDepth 100000 in
set_option maxHeartbeats 4000000 in
theorem part_goal (s : List UInt8) (hs : s.length ≤ 281474976710656) (at_ : Value) (nb : Bool) (w : World) (hS : Std w) (hM : SecM w base bx nm ms labs gs ks cv lb gv kv) (hbase : base ≤ w.heap.size) (hl : gs.length ≤ 1000000) :
    Calls Tryz.prog 112 #[.pointer (some ⟨bx, 0, none⟩), .string (mkS s), .int .i64 2, at_, .bool nb] w (GoalPost w base bx nm ms labs gs ks cv lb gv kv (labI s)) := by
  obtain ⟨rest, isB, hrl, HLab, hC⟩ := label_cut s hs w
  have HC := Lib.hid hC
  have HD0 := Lib.hid (digits_any rest 4 hrl w hS.errs hS.pow)
  rw [show ((4 : Nat) : Int) = 4 from rfl] at HD0
  have HM := Lib.hid hM
  obtain ⟨cA, cc, hcv⟩ := row_form hM.code
  obtain ⟨gA, gc, hgv⟩ := row_form hM.goals
  subst hcv hgv
  obtain ⟨cn, hcn⟩ : ∃ cn, ms.length = cn := ⟨_, rfl⟩
  obtain ⟨gn, hgn⟩ : ∃ gn, gs.length = gn := ⟨_, rfl⟩
  have Hcn := Lib.hid hcn
  have Hgn := Lib.hid hgn
  rw [hcn, hgn] at HM ⊢
  rw [hgn] at hl
  have HB := Lib.hid hbase
  clear hC hM hcn hgn hS hbase hs
  go_enter Tryz.func112, Tryz.ntmps112
  go_wp2_with fail
  refine HC.out.mono ?_
  rintro e w1 ⟨rfl, rfl⟩
  go_wp2_with fail
  refine HD0.out.mono ?_
  rintro e W1 ⟨⟨n, ok, hn, rfl, hd⟩, hb⟩
  have HD := Lib.hid hd
  have HB1 := Lib.hid hb
  clear hd hb HD0 HC
  obtain ⟨W2, hW2⟩ : ∃ W2, W1.drew = W2 := ⟨_, rfl⟩
  have HM2 : Hid (SecM W2 base bx nm ms labs gs ks (.slice cA cn cc) lb (.slice gA gn gc) kv) := Lib.hid (by rw [← hW2]; exact (HM.out.below HB1.out).stay fun _ _ => rfl)
  have hz2 : base ≤ W2.heap.size := by rw [← hW2]; exact Nat.le_trans HB.out HB1.out.size
  obtain ⟨B5, c5, W3, hr, hap⟩ := run_app_one (P := Tryz.prog) (w := W2) 54 54 122 _ 2 24 Tryz.underlying54 infoGoal rfl (by decide) (by decide) base _ _ _ HM2.out.goals [.int .i64 (cn : Int), .string (mkS rest)] rfl (fun u hu => by simp at hu; rcases hu with rfl | rfl <;> rfl) (by rw [Hgn.out]; omega) hz2
  have hadd := HM2.out.addGoal (i := cn) (s := rest) hap (by omega)
  rw [Hgn.out] at hadd hr
  have HAdd := Lib.hid hadd
  have Hr := Lib.hid hr
  have hap' := Lib.hid hap
  have hbx := hap.blk HM2.out.goals HM2.out.blk (by decide)
  have HF : Hid (∀ w', w' = W2 ∨ w' = W2.alloc (.cells #[.int .i64 (cn : Int), .string (mkS rest)] 122) ∨ w' = W3 → w'.cell? ⟨bx, 3, none⟩ = some (.slice gA gn gc) ∧ w'.cell? ⟨bx, 1, none⟩ = some (.slice cA cn cc)) := Lib.hid (by
    rintro w' (rfl | rfl | rfl)
    · exact ⟨HM2.out.blk.cell 3, HM2.out.blk.cell 1⟩
    · exact ⟨(HM2.out.blk.alloc _).cell 3, (HM2.out.blk.alloc _).cell 1⟩
    · exact ⟨hbx.cell 3, hbx.cell 1⟩)
  have e3 := hbx.cell 3
  have f3 := hbx.frozen 3
  simp only [List.getElem?_toArray, List.getElem?_cons_succ, List.getElem?_cons_zero] at e3
  have HO : Hid (OutS (InSec bx lb (.slice cA cn cc) (.slice gA gn gc) kv) w1 (W3.setCell ⟨bx, 3, none⟩ (.slice B5 (gn + 1) c5))) := Lib.hid (by
    have h1 := HAdd.out.2.1
    rw [← hW2] at h1
    exact (outS_of HB1.out).trans h1.drewn fun i _ hi => hi)
  have Hz2 : Hid (w1.heap.size ≤ W2.heap.size) := Lib.hid (by rw [← hW2]; exact HB1.out.size)
  have HW2 := Lib.hid hW2
  clear hadd hr hap hbx hz2 hW2
  go_wp2_with fail
  refine wp_region_lex (Three W2 (W2.alloc (.cells #[.int .i64 (cn : Int), .string (mkS rest)] 122)) W3 (W3.setCell ⟨bx, 3, none⟩ (.slice B5 (gn + 1) c5)) 12 13 16 14) (by kernel_rfl) (by kernel_rfl) (by have h : ({ W1 with drawn := W1.drawn + 1 } : World) = W2 := HW2.out; rw [h]; exact Three.start) ?_
  iterate 12
    apply wpLex_step
    · rfl
    · intro L w' hC hL hd
      clear hd
      have F := HF.out w' (hC.pend hL (by decide))
      have HC := Lib.hid hC
      clear hC
      go_simp
      exact ⟨HC.out.keep _ (by decide) (by decide) (by decide), rfl⟩
    simp only [Act.put, List.setIfInBounds_toArray, List.set_cons_succ, List.set_cons_zero, Nat.reduceAdd]
  apply wpLex_step
  · rfl
  · intro L w' hC hL hd
    obtain ⟨hw, hC2⟩ := hC.at1 hL (by decide) (by decide) (by decide)
    subst hw
    have HC2 := Lib.hid hC2
    clear hd hC hL hC2
    go_simp
    exact ⟨HC2.out, rfl⟩
  simp only [Act.put, List.setIfInBounds_toArray, List.set_cons_succ, List.set_cons_zero, Nat.reduceAdd]
  apply wpLex_step
  · rfl
  · intro L w' hC hL hd
    obtain ⟨hw, hC2⟩ := hC.at2 hL (hd ⟨12, .data⟩ (by simp) rfl) (by decide) (by decide)
    subst hw
    rw [exec_app (.tmp 33) (.tmp 41) 54 54 rfl _ _ _ _ rfl rfl Hr.out]
    exact ⟨hC2, rfl⟩
  simp only [Act.put, List.setIfInBounds_toArray, List.set_cons_succ, List.set_cons_zero, Nat.reduceAdd]
  iterate 2
    apply wpLex_step
    · rfl
    · intro L w' hC hL hd
      clear hd
      have HC := Lib.hid hC
      clear hC
      go_simp
      exact ⟨HC.out.keep _ (by decide) (by decide) (by decide), rfl⟩
    simp only [Act.put, List.setIfInBounds_toArray, List.set_cons_succ, List.set_cons_zero, Nat.reduceAdd]
  apply wpLex_step
  · rfl
  · intro L w' hC hL hd
    obtain ⟨hw, hC2⟩ := hC.at3 hL (cover (m := 14) (by kernel_rfl) hd) (by decide) (by decide)
    subst hw
    have HC2 := Lib.hid hC2
    clear hd hC hL hC2
    go_simp
    exact ⟨HC2.out, rfl⟩
  simp only [Act.put, Nat.reduceAdd]
  apply wpLex_nil
  intro L w' hC hd
  obtain rfl := hC.end_ (hd 16 (by decide))
  clear hC hd
  cases isB with
  | false =>
    go_wp2_with fail
    go_ret
    have HL2 : labI s = none := by rw [HLab.out]; rfl
    exact ⟨by rw [HL2]; rfl, HO.out, fun m h => by rw [HL2] at h; cases h⟩
  | true =>
    have HL2 : Hid (labI s = if ok = true then some n else none) := Lib.hid (by rw [HLab.out, if_pos rfl, HD.out])
    cases ok with
    | false =>
      go_wp2_with fail
      go_ret
      exact ⟨by rw [HL2.out]; rfl, HO.out, fun m h => by rw [HL2.out] at h; cases h⟩
    | true =>
      go_wp2_with fail
      go_ret
      refine ⟨by rw [HL2.out]; rfl, HO.out, fun m h => ?_⟩
      rw [HL2.out] at h
      cases h
      have hre : rest = Lib.itoa n := digI_itoa (k := 4) (by rw [HD.out]; rfl)
      rw [← hre, Hcn.out]
      exact ⟨_, HAdd.out.1, fun k hk => (HAdd.out.2.2 k hk).imp id fun h => Nat.le_trans Hz2.out h⟩
/-- What a called routine's part leaves. -/
def CallPost (w : World) (base bx : Nat) (nm : List UInt8) (ms : List Mac) (labs : List (Int × Nat)) (gs ks : List (Nat × List UInt8)) (cv : Value) (lb : Nat) (gv kv : Value) (s : List UInt8) (e : Ending) (w' : World) : Prop :=
  e = .returned (.bool (nameS (mkS s))) ∧ OutS (InSec bx lb cv gv kv) w w' ∧ ∃ kv', SecM w' base bx nm ms labs gs (ks ++ [(ms.length, s)]) cv lb gv kv' ∧ ∀ k, InSec bx lb cv gv kv' k → InSec bx lb cv gv kv k ∨ w.heap.size ≤ k
set_option maxRecDepth 100000 in
set_option maxHeartbeats 4000000 in
theorem part_call (s : List UInt8) (hs : s.length ≤ 281474976710656) (at_ : Value) (w : World) (hM : SecM w base bx nm ms labs gs ks cv lb gv kv) (hbase : base ≤ w.heap.size) (hl : ks.length ≤ 1000000) :
    Calls Tryz.prog 112 #[.pointer (some ⟨bx, 0, none⟩), .string (mkS s), .int .i64 4, at_, .bool true] w (CallPost w base bx nm ms labs gs ks cv lb gv kv s) := by
  have HM := Lib.hid hM
  obtain ⟨cA, cc, hcv⟩ := row_form hM.code
  obtain ⟨kA, kc, hkv⟩ := row_form hM.calls
  subst hcv hkv
  obtain ⟨cn, hcn⟩ : ∃ cn, ms.length = cn := ⟨_, rfl⟩
  obtain ⟨kn, hkn⟩ : ∃ kn, ks.length = kn := ⟨_, rfl⟩
  have Hcn := Lib.hid hcn
  have Hkn := Lib.hid hkn
  rw [hcn, hkn] at HM ⊢
  rw [hkn] at hl
  obtain ⟨W1, hW1⟩ : ∃ W1, w = W1 := ⟨_, rfl⟩
  subst hW1
  obtain ⟨W2, hW2⟩ : ∃ W2, w.drew = W2 := ⟨_, rfl⟩
  have HM2 : Hid (SecM W2 base bx nm ms labs gs ks (.slice cA cn cc) lb gv (.slice kA kn kc)) := Lib.hid (by rw [← hW2]; exact HM.out.stay fun _ _ => rfl)
  have hz2 : base ≤ W2.heap.size := by rw [← hW2]; exact hbase
  obtain ⟨B5, c5, W3, hr, hap⟩ := run_app_one (P := Tryz.prog) (w := W2) 54 54 122 _ 2 24 Tryz.underlying54 infoGoal rfl (by decide) (by decide) base _ _ _ HM2.out.calls [.int .i64 (cn : Int), .string (mkS s)] rfl (fun u hu => by simp at hu; rcases hu with rfl | rfl <;> rfl) (by rw [Hkn.out]; omega) hz2
  have hadd := HM2.out.addCall (i := cn) (s := s) hap (by omega)
  rw [Hkn.out] at hadd hr
  have HAdd := Lib.hid hadd
  have Hr := Lib.hid hr
  have hbx := hap.blk HM2.out.calls HM2.out.blk (by decide)
  have HF : Hid (∀ w', w' = W2 ∨ w' = W2.alloc (.cells #[.int .i64 (cn : Int), .string (mkS s)] 122) ∨ w' = W3 → w'.cell? ⟨bx, 4, none⟩ = some (.slice kA kn kc) ∧ w'.cell? ⟨bx, 1, none⟩ = some (.slice cA cn cc)) := Lib.hid (by
    rintro w' (rfl | rfl | rfl)
    · exact ⟨HM2.out.blk.cell 4, HM2.out.blk.cell 1⟩
    · exact ⟨(HM2.out.blk.alloc _).cell 4, (HM2.out.blk.alloc _).cell 1⟩
    · exact ⟨hbx.cell 4, hbx.cell 1⟩)
  have e3 := hbx.cell 4
  have f3 := hbx.frozen 4
  simp only [List.getElem?_toArray, List.getElem?_cons_succ, List.getElem?_cons_zero] at e3
  have HO : Hid (OutS (InSec bx lb (.slice cA cn cc) gv (.slice kA kn kc)) w (W3.setCell ⟨bx, 4, none⟩ (.slice B5 (kn + 1) c5))) := Lib.hid (by
    have h1 := HAdd.out.2.1
    rw [← hW2] at h1
    exact h1.drewn)
  have Hz2 : Hid (w.heap.size ≤ W2.heap.size) := Lib.hid (by rw [← hW2]; exact Nat.le_refl _)
  have HW2 := Lib.hid hW2
  have HNm := Lib.hid (Name_any (mkS s) (W3.setCell ⟨bx, 4, none⟩ (.slice B5 (kn + 1) c5)) (by rw [mkS_size]; omega))
  clear hadd hr hap hbx hz2 hW2 hM hcn hkn hbase
  go_enter Tryz.func112, Tryz.ntmps112
  go_wp2_with fail
  refine wp_region_lex (Three W2 (W2.alloc (.cells #[.int .i64 (cn : Int), .string (mkS s)] 122)) W3 (W3.setCell ⟨bx, 4, none⟩ (.slice B5 (kn + 1) c5)) 12 13 16 14) (by kernel_rfl) (by kernel_rfl) (by have h : ({ w with drawn := w.drawn + 1 } : World) = W2 := HW2.out; rw [h]; exact Three.start) ?_
  iterate 12
    apply wpLex_step
    · rfl
    · intro L w' hC hL hd
      clear hd
      have F := HF.out w' (hC.pend hL (by decide))
      have HC := Lib.hid hC
      clear hC
      go_simp
      exact ⟨HC.out.keep _ (by decide) (by decide) (by decide), rfl⟩
    simp only [Act.put, List.setIfInBounds_toArray, List.set_cons_succ, List.set_cons_zero, Nat.reduceAdd]
  apply wpLex_step
  · rfl
  · intro L w' hC hL hd
    obtain ⟨hw, hC2⟩ := hC.at1 hL (by decide) (by decide) (by decide)
    subst hw
    have HC2 := Lib.hid hC2
    clear hd hC hL hC2
    go_simp
    exact ⟨HC2.out, rfl⟩
  simp only [Act.put, List.setIfInBounds_toArray, List.set_cons_succ, List.set_cons_zero, Nat.reduceAdd]
  apply wpLex_step
  · rfl
  · intro L w' hC hL hd
    obtain ⟨hw, hC2⟩ := hC.at2 hL (hd ⟨12, .data⟩ (by simp) rfl) (by decide) (by decide)
    subst hw
    rw [exec_app (.tmp 54) (.tmp 62) 54 54 rfl _ _ _ _ rfl rfl Hr.out]
    exact ⟨hC2, rfl⟩
  simp only [Act.put, List.setIfInBounds_toArray, List.set_cons_succ, List.set_cons_zero, Nat.reduceAdd]
  iterate 2
    apply wpLex_step
    · rfl
    · intro L w' hC hL hd
      clear hd
      have HC := Lib.hid hC
      clear hC
      go_simp
      exact ⟨HC.out.keep _ (by decide) (by decide) (by decide), rfl⟩
    simp only [Act.put, List.setIfInBounds_toArray, List.set_cons_succ, List.set_cons_zero, Nat.reduceAdd]
  apply wpLex_step
  · rfl
  · intro L w' hC hL hd
    obtain ⟨hw, hC2⟩ := hC.at3 hL (cover (m := 14) (by kernel_rfl) hd) (by decide) (by decide)
    subst hw
    have HC2 := Lib.hid hC2
    clear hd hC hL hC2
    go_simp
    exact ⟨HC2.out, rfl⟩
  simp only [Act.put, Nat.reduceAdd]
  apply wpLex_nil
  intro L w' hC hd
  obtain rfl := hC.end_ (hd 16 (by decide))
  clear hC hd
  go_wp2_with fail
  refine HNm.out.mono ?_
  rintro e W4 ⟨rfl, rfl⟩
  go_wp2_with fail
  go_ret
  refine ⟨rfl, HO.out, ?_⟩
  rw [Hcn.out]
  exact ⟨_, HAdd.out.1, fun k hk => (HAdd.out.2.2 k hk).imp id fun h => Nat.le_trans Hz2.out h⟩
/-- What a number's part leaves. -/
def NumbPost (w : World) (bm : Nat) (cs : Array Value) (r : Option Int) (e : Ending) (w' : World) : Prop :=
  e = .returned (.bool r.isSome) ∧ OutS (fun k => k = bm) w w' ∧ ∀ n, r = some n → Blk w' bm 39 (cs.setIfInBounds 4 (.int .i64 n))
set_option maxRecDepth 100000 in
theorem part_num (bx : Nat) (s : List UInt8) (hs : s.length ≤ 281474976710656) (kind : Int) (nb : Bool) (hk : kind = 1 ∨ kind = 3 ∨ (kind = 4 ∧ nb = false)) (bm : Nat) (x0 x1 x2 x3 x4 : Value) (w : World) (hS : Std w) (hm : Blk w bm 39 #[x0, x1, x2, x3, x4]) :
    Calls Tryz.prog 112 #[.pointer (some ⟨bx, 0, none⟩), .string (mkS s), .int .i64 kind, .pointer (some ⟨bm, 4, none⟩), .bool nb] w (NumbPost w bm #[x0, x1, x2, x3, x4] (numI s)) := by
  have HN := Lib.hid (numeral_any s hs w hS.errs hS.pow)
  have HMb := Lib.hid hm
  clear hS hm
  rcases hk with rfl | rfl | ⟨rfl, rfl⟩
  all_goals
    go_enter Tryz.func112, Tryz.ntmps112
    go_wp2_with fail
    refine HN.out.mono ?_
    rintro e w1 ⟨⟨n, ok, hn, rfl, hd⟩, hb⟩
    have HD := Lib.hid hd
    have HB := Lib.hid hb
    have HM1 := Lib.hid (HMb.out.below hb HMb.out.lt)
    have c4 := HM1.out.cell 4
    have f4 := HM1.out.frozen 4
    clear hd hb HN
    go_wp2_with fail
    go_ret
    refine ⟨?_, (outS_of HB.out).trans (outS_set (S := fun k => k = bm) w1 bm 4 _ rfl) fun i _ e => e, fun m h => ?_⟩
    · rw [HD.out]; cases ok <;> rfl
    · rw [HD.out] at h
      cases ok with
      | false => cases h
      | true =>
        cases h
        exact HM1.out.set_ 4 _
end
end Go.Proofs.YtdldochhondifaaGreatDoor
namespace Go.Proofs.YtdldochhondifaaGreatDoor
open Go.RowKit

/-- A register's letter: its place in the instruction. -/
def offL (c : UInt8) : Nat := if c = 100 then 1 else if c = 97 then 2 else 3
def isReg (c : UInt8) : Bool := c == 100 || c == 97 || c == 98
def regL (op : Int) : List UInt8 := (ordL op).filter isReg
def numL (op : Int) : List UInt8 := (ordL op).filter fun c => !isReg c
/-- The offsets of the registers that are used, in the machine's order. -/
def offsAll (d a b : Bool) : List Nat := (if d then [1] else []) ++ (if a then [2] else []) ++ (if b then [3] else [])
def offsOf (op : Int) : List Nat := (regL op).map offL
theorem ord_facts {op : Int} (h : isOp op = true) :
    ordL op = regL op ++ numL op ∧ (if op = 34 then (offsAll (shD op) (shA op) (shB op)).reverse else offsAll (shD op) (shA op) (shB op)) = offsOf op ∧ (op = 34 → offsAll (shD op) (shA op) (shB op) = [2, 3]) ∧
    ((shK op = 0 ∧ numL op = []) ∨ (shK op = 1 ∧ numL op = [110]) ∨ (shK op = 2 ∧ numL op = [116]) ∨ (shK op = 3 ∧ numL op = [119]) ∨ (shK op = 4 ∧ numL op = [114])) := by
  have key : ∀ k : Fin 48, 1 ≤ k.val →
      ordL (k.val : Int) = regL (k.val : Int) ++ numL (k.val : Int) ∧ (if (k.val : Int) = 34 then (offsAll (shD (k.val : Int)) (shA (k.val : Int)) (shB (k.val : Int))).reverse else offsAll (shD (k.val : Int)) (shA (k.val : Int)) (shB (k.val : Int))) = offsOf (k.val : Int) ∧ ((k.val : Int) = 34 → offsAll (shD (k.val : Int)) (shA (k.val : Int)) (shB (k.val : Int)) = [2, 3]) ∧
      ((shK (k.val : Int) = 0 ∧ numL (k.val : Int) = []) ∨ (shK (k.val : Int) = 1 ∧ numL (k.val : Int) = [110]) ∨ (shK (k.val : Int) = 2 ∧ numL (k.val : Int) = [116]) ∨ (shK (k.val : Int) = 3 ∧ numL (k.val : Int) = [119]) ∨ (shK (k.val : Int) = 4 ∧ numL (k.val : Int) = [114])) := by
    decide +kernel
  obtain ⟨h1, h2⟩ := (isOp_iff op).1 h
  have := key ⟨op.toNat, by omega⟩ (by simp; omega)
  simp only [show ((op.toNat : Nat) : Int) = op from by omega] at this
  exact this
theorem regL_reg {op : Int} {i : Nat} {c : UInt8} (h : (regL op)[i]? = some c) : c = 100 ∨ c = 97 ∨ c = 98 := by
  have hm := List.mem_of_getElem? h
  unfold regL at hm
  have := (List.mem_filter.1 hm).2
  unfold isReg at this
  simp only [Bool.or_eq_true, beq_iff_eq] at this
  rcases this with (h | h) | h
  · exact .inl h
  · exact .inr (.inl h)
  · exact .inr (.inr h)
/-- A register set in its place. -/
def setReg (m : Mac) (c : UInt8) (n : Int) : Mac := if c = 100 then { m with dst := n } else if c = 97 then { m with a := n } else { m with b := n }
theorem field_reg {named : Bool} {x : Ins} {c : UInt8} {s : List UInt8} (h : c = 100 ∨ c = 97 ∨ c = 98) : fieldP named x c s = (regI s).map fun n => ⟨setReg x.m c n, x.goal, x.call⟩ := by
  rcases h with rfl | rfl | rfl <;> rfl
theorem setReg_cells {m : Mac} {c : UInt8} {n : Int} (h : c = 100 ∨ c = 97 ∨ c = 98) : (setReg m c n).cells.toArray = m.cells.toArray.setIfInBounds (offL c) (.int .i64 n) := by
  rcases h with rfl | rfl | rfl <;> rfl
theorem offL_le (c : UInt8) : 1 ≤ offL c ∧ offL c ≤ 3 := by unfold offL; split <;> (try split) <;> omega
/-- What the parts of an instruction say. -/
def takeP (named : Bool) (op : Int) (p : List (List UInt8)) : Option Ins := if p.length = (ordL op).length then fieldsP named (ins0 op) (ordL op) p else none
/-- The registers that have been read say m; the rest is to come. -/
def TakeTo (named : Bool) (op : Int) (p : List (List UInt8)) (i : Nat) (m : Mac) : Prop :=
  m.op = op ∧ takeP named op p = fieldsP named ⟨m, none, none⟩ ((ordL op).drop i) (p.drop i)
theorem TakeTo.zero {named : Bool} {op : Int} {p : List (List UInt8)} (h : p.length = (ordL op).length) : TakeTo named op p 0 ⟨op, 0, 0, 0, 0⟩ := by
  refine ⟨rfl, ?_⟩
  unfold takeP
  rw [if_pos h]
  rfl
theorem ord_at {op : Int} (h : isOp op = true) {i : Nat} {c : UInt8} (hc : (regL op)[i]? = some c) : (ordL op).drop i = c :: (ordL op).drop (i + 1) := by
  have hi := (List.getElem?_eq_some_iff.1 hc).1
  have ho : (ordL op)[i]? = some c := by rw [(ord_facts h).1, List.getElem?_append_left hi]; exact hc
  obtain ⟨h1, h2⟩ := List.getElem?_eq_some_iff.1 ho
  rw [List.drop_eq_getElem_cons h1, h2]
theorem drop_at {p : List (List UInt8)} {i : Nat} {s : List UInt8} (h : p[i]? = some s) : p.drop i = s :: p.drop (i + 1) := by
  obtain ⟨h1, h2⟩ := List.getElem?_eq_some_iff.1 h
  rw [List.drop_eq_getElem_cons h1, h2]
theorem TakeTo.next {named : Bool} {op : Int} {p : List (List UInt8)} {i : Nat} {m : Mac} {c : UInt8} {s : List UInt8} (h : TakeTo named op p i m) (hop : isOp op = true) (hc : (regL op)[i]? = some c) (hs : p[i]? = some s) :
    (regI s = none → takeP named op p = none) ∧ ∀ n, regI s = some n → TakeTo named op p (i + 1) (setReg m c n) := by
  obtain ⟨h1, h2⟩ := h
  rw [ord_at hop hc, drop_at hs, fieldsP, field_reg (regL_reg hc)] at h2
  refine ⟨fun hn => ?_, fun n hn => ⟨?_, ?_⟩⟩
  · rw [h2, hn]; rfl
  · rw [← h1]; unfold setReg; split <;> (try split) <;> rfl
  · rw [h2, hn]; rfl
theorem TakeTo.end_ {named : Bool} {op : Int} {p : List (List UInt8)} {m : Mac} (h : TakeTo named op p (regL op).length m) (hop : isOp op = true) :
    takeP named op p = fieldsP named ⟨m, none, none⟩ (numL op) (p.drop (regL op).length) := by
  have e : (ordL op).drop (regL op).length = numL op := by
    conv => lhs; rw [(ord_facts hop).1]
    exact List.drop_left' rfl
  rw [h.2, e]

def OneC (W0 : World) (R : World → Prop) (k : Nat) (L : Array Bool) (w : World) : Prop := if L.getD k false = true then R w else w = W0
section
variable {W0 w w' : World} {R : World → Prop} {k : Nat} {L : Array Bool}
theorem OneC.start {n : Nat} : OneC W0 R k (Array.replicate n false) W0 := by
  unfold OneC
  have h : (Array.replicate n false).getD k false = false := by
    simp only [Array.getD_eq_getD_getElem?]
    rcases Nat.lt_or_ge k n with h | h
    · rw [Array.getElem?_eq_getElem (by simpa using h)]; simp
    · rw [Array.getElem?_eq_none (by simpa using h)]; rfl
  rw [h]
  exact rfl
theorem OneC.keep (h : OneC W0 R k L w) (j : Nat) (hj : j ≠ k) : OneC W0 R k (L.setIfInBounds j true) w := by
  unfold OneC at *
  rw [getD_set_ne L j k hj]
  exact h
theorem OneC.pend (h : OneC W0 R k L w) (hk : L.getD k false = false) : W0 = w := by
  unfold OneC at h
  rw [hk] at h
  exact h.symm
theorem OneC.at_ (h : OneC W0 R k L w) (hk : L.getD k true = false) : W0 = w := h.pend (getD_false L k hk)
theorem OneC.put (hk : L.getD k true = false) (hr : R w') : OneC W0 R k (L.setIfInBounds k true) w' := by
  unfold OneC
  rw [getD_set_eq L k hk, if_pos rfl]
  exact hr
theorem OneC.done (h : OneC W0 R k L w) (hk : L.getD k false = true) : R w := by
  unfold OneC at h
  rw [hk, if_pos rfl] at h
  exact h
end
end Go.Proofs.YtdldochhondifaaGreatDoor
