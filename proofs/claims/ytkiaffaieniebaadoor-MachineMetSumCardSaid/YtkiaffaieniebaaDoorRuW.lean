/-
  Several texts in one (RuT RuW): what each proves stands at its theorems.
  Conditions: as the theorems say.
-/
import Derived.Test.YtkiaffaieniebaaDoorRuS
namespace Go.Proofs.YtkiaffaieniebaaDoor
open Go.RowKit

/-- The image's routines. -/
def imgR (la lb lc : List Int) (n : Nat) : List Rout := [⟨mainB, codeL (codeOf la n 3)⟩, ⟨⟨#[102]⟩, codeL (codeOf lb n 3)⟩, ⟨⟨#[107]⟩, codeL (codeOf lc n 3)⟩]
theorem codeOf_bytes (la : List Int) (n : Nat) (hn : n ≤ 1000) : bytesS (codeOf la n 3) = codeL (codeOf la n 3) := by
  unfold codeL
  rw [if_pos (by rw [codeOf_ok la n 3 (by omega) (by omega)])]

/-- The cells of routines, whose codes the call owns from block base on. -/
def RCells (w : World) (base : Nat) : List Value → List Rout → Prop
  | [], [] => True
  | n :: cv :: xs, r :: rs => n = .string r.name ∧ OwnB w base cv r.code ∧ RCells w base xs rs
  | _, _ => False
theorem RCells.mono {w w' : World} {base : Nat} (h : ∀ cv bs, OwnB w base cv bs → OwnB w' base cv bs) : ∀ {xs : List Value} {rs : List Rout}, RCells w base xs rs → RCells w' base xs rs
  | [], [], _ => trivial
  | _ :: _ :: _, _ :: _, ⟨h1, h2, h3⟩ => ⟨h1, h _ _ h2, RCells.mono h h3⟩
  | [], _ :: _, hf => hf.elim
  | [_], [], hf => hf.elim
  | [_], _ :: _, hf => hf.elim
  | _ :: _ :: _, [], hf => hf.elim
theorem RCells.snoc {w : World} {base : Nat} {n : ByteArray} {cv : Value} {bs : List Int} (hc : OwnB w base cv bs) : ∀ {xs : List Value} {rs : List Rout}, RCells w base xs rs → RCells w base (xs ++ [.string n, cv]) (rs ++ [⟨n, bs⟩])
  | [], [], _ => ⟨rfl, hc, trivial⟩
  | _ :: _ :: _, _ :: _, ⟨h1, h2, h3⟩ => ⟨h1, h2, RCells.snoc hc h3⟩
  | [], _ :: _, hf => hf.elim
  | [_], [], hf => hf.elim
  | [_], _ :: _, hf => hf.elim
  | _ :: _ :: _, [], hf => hf.elim
theorem RCells.get {w : World} {base : Nat} : ∀ {xs : List Value} {rs : List Rout} {k : Nat} {r : Rout}, RCells w base xs rs → rs[k]? = some r → ∃ cv, xs[k * 2]? = some (.string r.name) ∧ xs[k * 2 + 1]? = some cv ∧ OwnB w base cv r.code
  | [], [], k, r, _, hk => by simp at hk
  | _ :: cv :: _, _ :: _, 0, r, ⟨h1, h2, _⟩, hk => by
    simp only [List.getElem?_cons_zero, Option.some.injEq] at hk
    subst hk
    exact ⟨cv, by rw [h1]; rfl, rfl, h2⟩
  | _ :: _ :: _, _ :: _, k + 1, r, ⟨_, _, h3⟩, hk => by
    obtain ⟨cv, e1, e2, e3⟩ := RCells.get h3 (by simpa using hk)
    refine ⟨cv, ?_, ?_, e3⟩
    · rw [show (k + 1) * 2 = k * 2 + 1 + 1 by omega]; simpa using e1
    · rw [show (k + 1) * 2 + 1 = k * 2 + 1 + 1 + 1 by omega]; simpa using e2
  | [], _ :: _, _, _, hf, _ => hf.elim
  | [_], [], _, _, hf, _ => hf.elim
  | [_], _ :: _, _, _, hf, _ => hf.elim
  | _ :: _ :: _, [], _, _, hf, _ => hf.elim
/-- Rows of different element types lie apart. -/
theorem own_apart {w : World} {b b' : Nat} {e e' : TypeId} {size size' n n' : Nat} {v v' : Value} {xs xs' : List Value} (h : w.ownsRow b e size v n xs) (h' : w.ownsRow b' e' size' v' n' xs') (hne : e ≠ e') : ∀ k, v.ownBlock = some k → v'.ownBlock ≠ some k := by
  intro k hk hk'
  rcases h.2 with ⟨rfl, _⟩ | ⟨g, cap, cur, rfl, _, hh, _⟩
  · simp [Value.ownBlock] at hk
  · rcases h'.2 with ⟨rfl, _⟩ | ⟨g', cap', cur', rfl, _, hh', _⟩
    · simp [Value.ownBlock] at hk'
    · simp only [Value.ownBlock, Option.some.injEq] at hk hk'
      subst hk
      subst hk'
      rw [hh] at hh'
      simp only [Option.some.injEq, Obj.cells.injEq] at hh'
      exact hne hh'.2.1
/-- The image that is being built. -/
def Mid (w1 : World) (B g : Nat) (gv rv0 rv : Value) (rs : List Rout) (xs : List Value) (W : World) : Prop :=
  Blk W g 36 #[gv, rv0] ∧ B ≤ g ∧ W.ownsRow B 56 2 rv rs.length xs ∧ RCells W B xs rs ∧ Below B w1 W ∧ B ≤ W.heap.size
section
variable {w1 W W' : World} {B g : Nat} {gv rv0 rv : Value} {rs : List Rout} {xs : List Value}
theorem Mid.below (h : Mid w1 B g gv rv0 rv rs xs W) (hb : Below W.heap.size W W') : Mid w1 B g gv rv0 rv rs xs W' := by
  obtain ⟨h1, h2, h3, h4, h5, h6⟩ := h
  exact ⟨h1.below hb h1.lt, h2, row_lt h3 hb, h4.mono (fun _ _ h => h.below hb rfl), h5.trans (hb.mono h6), Nat.le_trans h6 hb.size⟩
theorem Mid.alloc (h : Mid w1 B g gv rv0 rv rs xs W) (o : Obj) : Mid w1 B g gv rv0 rv rs xs (W.alloc o) := h.below ((Below.refl _ _).alloc (Nat.le_refl _) _)
theorem Mid.app (h : Mid w1 B g gv rv0 rv rs xs W) {n : ByteArray} {cv v' : Value} {bs : List Int} {H : Nat} (hc : OwnB W B cv bs) (hap : Appended W B 56 2 rv (rs.length + 1) (xs ++ [.string n, cv]) H v' W') :
    Mid w1 B g gv rv0 v' (rs ++ [⟨n, bs⟩]) (xs ++ [.string n, cv]) W' := by
  obtain ⟨h1, h2, h3, h4, h5, h6⟩ := h
  refine ⟨hap.blk h3 h1 (by decide), h2, by rw [List.length_append]; exact hap.own, ?_, h5.trans hap.below, Nat.le_trans h6 hap.below.size⟩
  exact (h4.snoc hc).mono fun _ _ ho => hap.row ho (own_apart ho h3 (by decide))
theorem Mid.set (h : Mid w1 B g gv rv0 rv rs xs W) (u : Value) : Mid w1 B g gv u rv rs xs (W.setCell ⟨g, 1, none⟩ u) := by
  obtain ⟨h1, h2, h3, h4, h5, h6⟩ := h
  exact ⟨h1.set_ 1 u, h2, row_far h3 h1 (by decide) u, h4.mono fun _ _ ho => row_far ho h1 (by decide) u, h5.setCell h2 u, by simpa using h6⟩
theorem Mid.routs (h : Mid w1 B g gv rv0 rv rs xs W) {V : World} (hV : Turn B W V) : RoutsAt V W.heap.size rv rs := by
  obtain ⟨h1, h2, h3, h4, h5, h6⟩ := h
  have hc := fun {b : Nat} (hg : rv.ownBlock = some b) => World.ownsRow.cells h3 hg
  rcases h3.2 with ⟨rfl, hn⟩ | ⟨b, cap, cur, rfl, hb, hgg, hnc, hcm, _, _⟩
  · exact ⟨none, 0, by rw [hn], by omega, by omega, fun h => by omega⟩
  · refine ⟨some ⟨b, 0, none⟩, cap, rfl, hnc, by unfold maxLen at hcm; omega, fun _ => ⟨b, 0, rfl, ?_, fun k r hk => ?_⟩⟩
    · rcases Nat.lt_or_ge b W.heap.size with h | h
      · exact h
      · rw [Array.getElem?_eq_none h] at hgg; cases hgg
    · have hcell : ∀ (j : Nat) (u : Value), xs[j]? = some u → W.cell? ⟨b, j, none⟩ = some u := fun j u hj => by
        have := hc (b := b) rfl j u hj
        rw [← this]
        unfold Addr.add
        split <;> simp_all
      obtain ⟨cv, e1, e2, e3⟩ := h4.get hk
      rw [Nat.zero_add]
      exact ⟨cv, hV _ _ _ hb (hcell _ _ e1), hV _ _ _ hb (hcell _ _ e2), e3.turn hV⟩
end
/-- Coding raw numbers, in every later world. -/
def CodeFrom (w : World) (v : Value) (la : List Int) (n : Nat) : Prop := ∀ W, Below w.heap.size w W → Calls Tryd.prog 26 #[v, .int .i64 (n : Int), .int .i64 3] W fun e w' => ∃ v', e = .returned v' ∧ OwnMacs w' W.heap.size v' (codeOf la n 3) ∧ Below W.heap.size W w'
theorem codeFrom {w : World} {v : Value} {la : List Int} {n : Nat} (hv : IntsAt w w.heap.size v la) (hx : ∀ x ∈ la, I64 x) (hn : n ≤ 1000) : CodeFrom w v la n := fun W hW =>
  CodeOf_any v la n n 3 W rfl ((hv.below hW (Nat.le_refl _)).more hW.size) hx hn (by omega) (by omega)
theorem codeBytesOf {w : World} {v : Value} {la : List Int} {n lo : Nat} (hv : OwnMacs w lo v (codeOf la n 3)) (hx : ∀ x ∈ la, I64 x) (hn : n ≤ 1000) :
    Calls Tryd.prog 27 #[v] w fun e w' => ∃ A c, e = .returned (.slice A (codeL (codeOf la n 3)).length c) ∧ OwnB w' w.heap.size (.slice A (codeL (codeOf la n 3)).length c) (codeL (codeOf la n 3)) ∧ Below w.heap.size w w' := by
  obtain ⟨hl5, hw⟩ := writes_of_check (show (checkS (codeOf la n 3)).1 = 0 by rw [codeOf_ok la n 3 (by omega) (by omega)]) (codeOf_i64 la n 3 (by omega) (by unfold I64; omega) hx (by omega))
  refine (CodeBytes_any v _ w hv.macs hw hl5).mono ?_
  rintro e w' ⟨v', rfl, hb, hbw⟩
  rw [codeOf_bytes la n hn] at hb
  obtain ⟨A, c, rfl, _⟩ := hb.bytes
  exact ⟨A, c, rfl, hb, hbw⟩
theorem infoRout : (Tryd.prog.info? 56).map (fun i => (i.zero, i.size, i.bytes)) = some (some (.agg #[.string ⟨#[]⟩, .slice none 0 0]), 2, 40) := by kernel_rfl
set_option maxRecDepth 100000 in
set_option maxHeartbeats 2000000 in
theorem ImageOf_any (va vb vc : Value) (la lb lc : List Int) (n : Nat) (w : World) (ha : IntsAt w w.heap.size va la) (hb : IntsAt w w.heap.size vb lb) (hc : IntsAt w w.heap.size vc lc)
    (hia : ∀ x ∈ la, I64 x) (hib : ∀ x ∈ lb, I64 x) (hic : ∀ x ∈ lc, I64 x) (hn : n ≤ 1000) : Calls Tryd.prog 21 #[va, vb, vc, .int .i64 (n : Int)] w (ImgPost w kGlobs (imgR la lb lc n)) := by
  have HCa := Lib.hid (codeFrom ha hia hn)
  have HCb := Lib.hid (codeFrom hb hib hn)
  have HCc := Lib.hid (codeFrom hc hic hn)
  have HBa : Hid (∀ {w : World} {v : Value} {lo : Nat}, OwnMacs w lo v (codeOf la n 3) → Calls Tryd.prog 27 #[v] w fun e w' => ∃ A c, e = .returned (.slice A (codeL (codeOf la n 3)).length c) ∧ OwnB w' w.heap.size (.slice A (codeL (codeOf la n 3)).length c) (codeL (codeOf la n 3)) ∧ Below w.heap.size w w') := Lib.hid fun h => codeBytesOf h hia hn
  have HBb : Hid (∀ {w : World} {v : Value} {lo : Nat}, OwnMacs w lo v (codeOf lb n 3) → Calls Tryd.prog 27 #[v] w fun e w' => ∃ A c, e = .returned (.slice A (codeL (codeOf lb n 3)).length c) ∧ OwnB w' w.heap.size (.slice A (codeL (codeOf lb n 3)).length c) (codeL (codeOf lb n 3)) ∧ Below w.heap.size w w') := Lib.hid fun h => codeBytesOf h hib hn
  have HBc : Hid (∀ {w : World} {v : Value} {lo : Nat}, OwnMacs w lo v (codeOf lc n 3) → Calls Tryd.prog 27 #[v] w fun e w' => ∃ A c, e = .returned (.slice A (codeL (codeOf lc n 3)).length c) ∧ OwnB w' w.heap.size (.slice A (codeL (codeOf lc n 3)).length c) (codeL (codeOf lc n 3)) ∧ Below w.heap.size w w') := Lib.hid fun h => codeBytesOf h hic hn
  obtain ⟨PE, hPE⟩ : ∃ PE, ImgPost w kGlobs (imgR la lb lc n) = PE := ⟨_, rfl⟩
  rw [hPE]
  have HPE := Lib.hid hPE
  have HA : Hid (Below w.heap.size w (w.alloc (.cells #[.slice none 0 0, .slice none 0 0] 36))) := Lib.hid ((Below.refl _ _).alloc (Nat.le_refl _) _)
  have HK : Hid (Blk (w.alloc (.cells #[.slice none 0 0, .slice none 0 0] 36)) w.heap.size 36 #[.slice none 0 0, .slice none 0 0]) := Lib.hid (Blk.new _ _ _)
  obtain ⟨ca, hca⟩ : ∃ l, codeL (codeOf la n 3) = l := ⟨_, rfl⟩
  obtain ⟨cb, hcb⟩ : ∃ l, codeL (codeOf lb n 3) = l := ⟨_, rfl⟩
  obtain ⟨cc, hcc⟩ : ∃ l, codeL (codeOf lc n 3) = l := ⟨_, rfl⟩
  rw [hca] at HBa
  rw [hcb] at HBb
  rw [hcc] at HBc
  have HR : Hid (imgR la lb lc n = [⟨mainB, ca⟩, ⟨⟨#[102]⟩, cb⟩, ⟨⟨#[107]⟩, cc⟩]) := Lib.hid (by unfold imgR; rw [hca, hcb, hcc])
  clear ha hb hc hia hib hic hPE hca hcb hcc
  go_enter Tryd.func21, Tryd.ntmps21
  go_wp2_with fail
  generalize w.alloc (.cells #[.slice none 0 0, .slice none 0 0] 36) = W at *
  refine (KGlobals_any W).mono ?_
  rintro e w1 ⟨Ag, ng, cg, rfl, hg, hb1⟩
  have HG := Lib.hid hg
  have HK1 := Lib.hid (HK.out.below hb1 HK.out.lt)
  have HzW : Hid (w.heap.size < W.heap.size ∧ W.heap.size ≤ w1.heap.size) := Lib.hid ⟨HK.out.lt, hb1.size⟩
  have HB1 := Lib.hid (HA.out.trans (hb1.mono HA.out.size))
  clear hg hb1
  go_upto_region 2 with fail
  have HM0 : Hid (Mid w1 w1.heap.size w1.heap.size (.slice Ag ng cg) (.slice none 0 0) (.slice none 0 0) [] [] (w1.alloc (.cells #[.slice Ag ng cg, .slice none 0 0] 36))) :=
    Lib.hid ⟨Blk.new _ _ _, Nat.le_refl _, World.ownsRow_nil _ _ _ _, trivial, (Below.refl _ _).alloc (Nat.le_refl _) _, by simp⟩
  generalize w1.alloc (.cells #[.slice Ag ng cg, .slice none 0 0] 36) = W2 at *
  have c1 := HM0.out.1.cell 1
  have f1 := HM0.out.1.frozen 1
  go_cut [] (fun wx => ∃ A c xs, Hid (Mid w1 w1.heap.size w1.heap.size (.slice Ag ng cg) (.slice A 1 c) (.slice A 1 c) [⟨mainB, ca⟩] xs wx))
  case first =>
    go_region_law (first
      | (refine step_app_src (by rfl) (.tmp 13) (.tmp 19) 34 56 (by rfl) (.agg #[.string ⟨#[]⟩, .slice none 0 0]) 2 40 Tryd.underlying34 infoRout rfl (by decide) (by decide) w1.heap.size (.slice none 0 0) 0 [] (by rfl) (HM4.out.alloc _).2.2.1 (some ⟨w4.heap.size, 0, none⟩) 1 1 [.string ⟨#[109, 97, 105, 110]⟩, .slice Ac ca.length cc'] (by rfl) (by rfl) (fun _ => ⟨_, rfl, cells_new w4 [.string ⟨#[109, 97, 105, 110]⟩, .slice Ac ca.length cc'] 56 w4.heap.size rfl⟩) (fun u hu => by simp at hu; rcases hu with rfl | rfl <;> rfl) (by decide) (HM4.out.alloc _).2.2.2.2.2 (w4.heap.size + 1) (by simp) ?_; intro B5 c5 w5 HA5; have HM5 := Lib.hid ((HM4.out.alloc (.cells #[.string ⟨#[109, 97, 105, 110]⟩, .slice Ac ca.length cc'] 56)).app (n := mainB) (HO4.out.below ((Below.refl _ _).alloc (Nat.le_refl _) _) rfl) HA5.out); have f1 := HM5.out.1.frozen 1; have c1 := HM5.out.1.cell 1)
      | (go_simp; go_at_call 26; refine (HCa.out W2.drew (below_drew (HB1.out.trans (HM0.out.2.2.2.2.1.mono HB1.out.size)))).mono ?_; rintro e w3 ⟨v3, rfl, ho3, hb3⟩; have HO3 := Lib.hid ho3; have HM3 := Lib.hid ((HM0.out.below (below_drew (Below.refl _ _))).below hb3); have c1 := HM3.out.1.cell 1; clear ho3 hb3)
      | (go_simp; go_at_call 27; refine (HBa.out HO3.out).mono ?_; rintro e w4 ⟨Ac, cc', rfl, ho4, hb4⟩; have HO4 := Lib.hid (ho4.more HM3.out.2.2.2.2.2); have HM4 := Lib.hid (HM3.out.below hb4); have c1 := HM4.out.1.cell 1; have c1a := (HM4.out.1.alloc (.cells #[.string ⟨#[109, 97, 105, 110]⟩, .slice Ac ca.length cc'] 56)).cell 1; clear ho4 hb4))
    all_goals
      go_wp2_with fail
      go_meet
      exact ⟨B5, c5, _, Lib.hid (HM5.out.set _)⟩
  obtain ⟨A1, c1', xs1, HM1⟩ := hcut
  clear c1 f1
  go_upto_region 3 with fail
  have c1 := HM1.out.1.cell 1
  have f1 := HM1.out.1.frozen 1
  go_cut [] (fun wx => ∃ A c xs, Hid (Mid w1 w1.heap.size w1.heap.size (.slice Ag ng cg) (.slice A 2 c) (.slice A 2 c) [⟨mainB, ca⟩, ⟨⟨#[102]⟩, cb⟩] xs wx))
  case first =>
    go_region_law (first
      | (refine step_app_src (by rfl) (.tmp 23) (.tmp 29) 34 56 (by rfl) (.agg #[.string ⟨#[]⟩, .slice none 0 0]) 2 40 Tryd.underlying34 infoRout rfl (by decide) (by decide) w1.heap.size (.slice A1 1 c1') 1 xs1 (by rfl) (HM4.out.alloc _).2.2.1 (some ⟨w4.heap.size, 0, none⟩) 1 1 [.string ⟨#[102]⟩, .slice Ac cb.length cc'] (by rfl) (by rfl) (fun _ => ⟨_, rfl, cells_new w4 [.string ⟨#[102]⟩, .slice Ac cb.length cc'] 56 w4.heap.size rfl⟩) (fun u hu => by simp at hu; rcases hu with rfl | rfl <;> rfl) (by decide) (HM4.out.alloc _).2.2.2.2.2 (w4.heap.size + 1) (by simp) ?_; intro B5 c5 w5 HA5; have HM5 := Lib.hid ((HM4.out.alloc (.cells #[.string ⟨#[102]⟩, .slice Ac cb.length cc'] 56)).app (n := ⟨#[102]⟩) (HO4.out.below ((Below.refl _ _).alloc (Nat.le_refl _) _) rfl) HA5.out); have f1 := HM5.out.1.frozen 1; have c1 := HM5.out.1.cell 1)
      | (go_simp; go_at_call 26; refine (HCb.out wc.drew (below_drew (HB1.out.trans (HM1.out.2.2.2.2.1.mono HB1.out.size)))).mono ?_; rintro e w3 ⟨v3, rfl, ho3, hb3⟩; have HO3 := Lib.hid ho3; have HM3 := Lib.hid ((HM1.out.below (below_drew (Below.refl _ _))).below hb3); have c1 := HM3.out.1.cell 1; clear ho3 hb3)
      | (go_simp; go_at_call 27; refine (HBb.out HO3.out).mono ?_; rintro e w4 ⟨Ac, cc', rfl, ho4, hb4⟩; have HO4 := Lib.hid (ho4.more HM3.out.2.2.2.2.2); have HM4 := Lib.hid (HM3.out.below hb4); have c1 := HM4.out.1.cell 1; have c1a := (HM4.out.1.alloc (.cells #[.string ⟨#[102]⟩, .slice Ac cb.length cc'] 56)).cell 1; clear ho4 hb4))
    all_goals
      go_wp2_with fail
      go_meet
      exact ⟨B5, c5, _, Lib.hid (HM5.out.set _)⟩
  obtain ⟨A2, c2', xs2, HM2⟩ := hcut
  clear c1 f1
  go_upto_region 4 with fail
  have c0 := HM2.out.1.cell 0
  have c1 := HM2.out.1.cell 1
  go_cut [] (fun wx => ∃ A c xs w5, Hid (Mid w1 w1.heap.size w1.heap.size (.slice Ag ng cg) (.slice A2 2 c2') (.slice A 3 c) [⟨mainB, ca⟩, ⟨⟨#[102]⟩, cb⟩, ⟨⟨#[107]⟩, cc⟩] xs w5) ∧ wx = (w5.setCell ⟨w.heap.size, 0, none⟩ (.slice Ag ng cg)).setCell ⟨w.heap.size, 1, none⟩ (.slice A 3 c))
  case first =>
    go_region_law (first
      | (refine step_app_src (by rfl) (.tmp 35) (.tmp 41) 34 56 (by rfl) (.agg #[.string ⟨#[]⟩, .slice none 0 0]) 2 40 Tryd.underlying34 infoRout rfl (by decide) (by decide) w1.heap.size (.slice A2 2 c2') 2 xs2 (by rfl) (HM4.out.alloc _).2.2.1 (some ⟨w4.heap.size, 0, none⟩) 1 1 [.string ⟨#[107]⟩, .slice Ac cc.length cc'] (by rfl) (by rfl) (fun _ => ⟨_, rfl, cells_new w4 [.string ⟨#[107]⟩, .slice Ac cc.length cc'] 56 w4.heap.size rfl⟩) (fun u hu => by simp at hu; rcases hu with rfl | rfl <;> rfl) (by decide) (HM4.out.alloc _).2.2.2.2.2 (w4.heap.size + 1) (by simp) ?_; intro B5 c5 w5 HA5; have HM5 := Lib.hid ((HM4.out.alloc (.cells #[.string ⟨#[107]⟩, .slice Ac cc.length cc'] 56)).app (n := ⟨#[107]⟩) (HO4.out.below ((Below.refl _ _).alloc (Nat.le_refl _) _) rfl) HA5.out); have f80 := (HK1.out.below HM5.out.2.2.2.2.1 HK1.out.lt).frozen 0; have f81 := (HK1.out.below HM5.out.2.2.2.2.1 HK1.out.lt).frozen 1; have d80 := (HK1.out.below HM5.out.2.2.2.2.1 HK1.out.lt).cell 0; have d81 := (HK1.out.below HM5.out.2.2.2.2.1 HK1.out.lt).cell 1; have c0 := HM5.out.1.cell 0; have c1 := HM5.out.1.cell 1)
      | (go_simp; go_at_call 26; refine (HCc.out wc.drew (below_drew (HB1.out.trans (HM2.out.2.2.2.2.1.mono HB1.out.size)))).mono ?_; rintro e w3 ⟨v3, rfl, ho3, hb3⟩; have HO3 := Lib.hid ho3; have HM3 := Lib.hid ((HM2.out.below (below_drew (Below.refl _ _))).below hb3); have c0 := HM3.out.1.cell 0; have c1 := HM3.out.1.cell 1; clear ho3 hb3)
      | (go_simp; go_at_call 27; refine (HBc.out HO3.out).mono ?_; rintro e w4 ⟨Ac, cc', rfl, ho4, hb4⟩; have HO4 := Lib.hid (ho4.more HM3.out.2.2.2.2.2); have HM4 := Lib.hid (HM3.out.below hb4); have c0 := HM4.out.1.cell 0; have c1 := HM4.out.1.cell 1; have c0a := (HM4.out.1.alloc (.cells #[.string ⟨#[107]⟩, .slice Ac cc.length cc'] 56)).cell 0; have c1a := (HM4.out.1.alloc (.cells #[.string ⟨#[107]⟩, .slice Ac cc.length cc'] 56)).cell 1; clear ho4 hb4))
    all_goals
      go_wp2_with fail
      go_meet
      exact ⟨B5, c5, _, w5, HM5, rfl⟩
  obtain ⟨A3, c3, xs3, w5, HM5, rfl⟩ := hcut
  clear c0 c1
  have HK5 := Lib.hid (HK1.out.below HM5.out.2.2.2.2.1 HK1.out.lt)
  go_wp2_with fail
  refine end_cell rfl rfl (HK5.out.set2 _ _) Tryd.underlying36 rfl (by kernel_rfl) rfl ?_
  rw [← HPE.out, HR.out]
  obtain ⟨z0, z1⟩ := HzW.out
  have hB5 := HM5.out.2.2.2.2.1
  have hz : ((w5.setCell ⟨w.heap.size, 0, none⟩ (.slice Ag ng cg)).setCell ⟨w.heap.size, 1, none⟩ (.slice A3 3 c3)).heap.size = w5.heap.size := by simp
  have hT : Turn W.heap.size w5 ((w5.setCell ⟨w.heap.size, 0, none⟩ (.slice Ag ng cg)).setCell ⟨w.heap.size, 1, none⟩ (.slice A3 3 c3)) := (Turn.low w5 _ z0).trans (Turn.low _ _ z0)
  refine ⟨_, _, rfl, fun V hV => ?_, ((HB1.out.trans (hB5.mono HB1.out.size)).setCell (Nat.le_refl _) _).setCell (Nat.le_refl _) _⟩
  have hV5 : Turn W.heap.size w5 V := hT.trans (hV.more (by omega))
  rw [hz]
  exact ⟨(HG.out V ((Turn.of_below hB5).trans hV5)).more hB5.size, HM5.out.routs (hV5.more z1)⟩
end Go.Proofs.YtkiaffaieniebaaDoor
namespace Go.Proofs.YtkiaffaieniebaaDoor
open Go.RowKit

/-- From s to t: what has been told does not turn before the end, the end is no hunger, and what has been printed stays. -/
def Tells (s t : Mch) : Prop := (t.over = false → t.state = s.state ∧ t.value = s.value) ∧ (t.over = true → s.over = false → t.state ≠ 1) ∧ s.out <+: t.out
theorem Tells.same {s t : Mch} (h0 : t.over = s.over) (h1 : t.state = s.state) (h2 : t.value = s.value) (h3 : s.out <+: t.out) : Tells s t :=
  ⟨fun _ => ⟨h1, h2⟩, fun h h' => (by rw [h0, h'] at h; cases h), h3⟩
theorem Tells.ends (s : Mch) {st : Int} (h : st ≠ 1) : Tells s (s.ends st) := ⟨fun h => (by cases h), fun _ _ => h, List.prefix_refl _⟩
theorem reck_tells (op d a b : Int) (s : Mch) : Tells s (reckS op d a b s) := by
  unfold reckS
  split
  · exact .same rfl rfl rfl (List.prefix_refl _)
  · exact .ends s (by decide)
theorem speaks_tells (i : Mac) (cs : List Fr) (s : Mch) : Tells s (speaksS i cs s) := by
  unfold speaksS
  repeat' split
  · unfold callS
    split
    · exact .ends s (by decide)
    · exact .same rfl rfl rfl (List.prefix_refl _)
  · unfold retS
    split
    · exact ⟨fun h => (by cases h), fun _ _ => (by decide : (0 : Int) ≠ 1), List.prefix_refl _⟩
    · exact .same rfl rfl rfl (List.prefix_refl _)
  · unfold readM
    split
    · exact .same rfl rfl rfl (List.prefix_refl _)
    · exact .same rfl rfl rfl (List.prefix_refl _)
  · unfold printS
    split
    · exact .ends s (by decide)
    · exact .same rfl rfl rfl (List.prefix_append _ _)
theorem moves_tells (i : Mac) (c : Fr) (cs : List Fr) (s : Mch) : Tells s (movesS i c cs s) := by
  unfold movesS
  repeat' split
  all_goals first
    | exact .same rfl rfl rfl (List.prefix_refl _)
    | (unfold loadS; split <;> first | exact .same rfl rfl rfl (List.prefix_refl _) | exact .ends s (by decide))
    | (unfold storeS; split <;> first | exact .same rfl rfl rfl (List.prefix_refl _) | exact .ends s (by decide))
theorem do_tells (i : Mac) (c : Fr) (cs : List Fr) (s : Mch) : Tells s (doS i c cs s) := by
  unfold doS
  split
  · exact reck_tells _ _ _ _ _
  split
  · exact reck_tells _ _ _ _ _
  split
  · split <;> exact .same rfl rfl rfl (List.prefix_refl _)
  split
  · exact speaks_tells _ _ _
  · exact moves_tells _ _ _ _
theorem step_tells (codes : List (List Mac)) (s : Mch) : Tells s (stepS codes s) := by
  unfold stepS
  split
  · exact .same rfl rfl rfl (List.prefix_refl _)
  · obtain ⟨h1, h2, h3⟩ := do_tells (macAt codes _ _) (Fr.next _) _ (s.begun _ _)
    exact ⟨h1, h2, h3⟩
section
variable {codes : List (List Mac)} {s : Mch}
/-- How a run stands: while it is not over nothing has been told; an end is no hunger. -/
theorem run_told (h0 : s.over = false) (h1 : s.state = 0) (h2 : s.value = 0) : ∀ k, ((runS codes s k).over = false → (runS codes s k).state = 0 ∧ (runS codes s k).value = 0) ∧ ((runS codes s k).over = true → (runS codes s k).state ≠ 1)
  | 0 => ⟨fun _ => ⟨h1, h2⟩, fun h => by rw [show (runS codes s 0).over = false from h0] at h; cases h⟩
  | k + 1 => by
    obtain ⟨i1, i2⟩ := run_told h0 h1 h2 k
    cases ho : (runS codes s k).over
    · rw [(run_succ ho).1]
      obtain ⟨t1, t2, _⟩ := step_tells codes (runS codes s k)
      obtain ⟨e1, e2⟩ := i1 ho
      exact ⟨fun h => ⟨(t1 h).1.trans e1, (t1 h).2.trans e2⟩, fun h => t2 h ho⟩
    · rw [(run_over ho (k + 1) (by omega)).1]
      exact ⟨i1, i2⟩
theorem run_out (k : Nat) : ∀ j, (runS codes s k).out <+: (runS codes s (k + j)).out
  | 0 => List.prefix_refl _
  | j + 1 => by
    refine (run_out k j).trans ?_
    cases ho : (runS codes s (k + j)).over
    · rw [show k + (j + 1) = k + j + 1 by omega, (run_succ ho).1]
      exact (step_tells codes _).2.2
    · rw [(run_over ho (k + (j + 1)) (by omega)).1]
      exact List.prefix_refl _
theorem run_more (hc : GoodC codes) (hg : GoodS codes s) (k : Nat) : ∀ j, (runS codes s k).steps ≤ (runS codes s (k + j)).steps
  | 0 => Nat.le_refl _
  | j + 1 => by
    refine Nat.le_trans (run_more hc hg k j) ?_
    cases ho : (runS codes s (k + j)).over
    · rw [show k + (j + 1) = k + j + 1 by omega, (run_succ ho).1, step_steps (good_run hc hg (k + j)) ho]
      omega
    · rw [(run_over ho (k + (j + 1)) (by omega)).1]
      exact Nat.le_refl _
theorem told_steps (t : Mch) : t.told.steps = t.steps := by unfold Mch.told; split <;> rfl
theorem told_out (t : Mch) : t.told.out = t.out := by unfold Mch.told; split <;> rfl
/-- The law of fuel. -/
theorem fuel_law (hc : GoodC codes) (hg : GoodS codes s) (h0 : s.over = false) (h1 : s.state = 0) (h2 : s.value = 0) (h3 : s.steps = 0) (n m : Nat) :
    (runS codes s n).told.steps ≤ n ∧ (runS codes s n).told.steps ≤ (runS codes s (n + m)).told.steps ∧
    (((runS codes s n).told.state = 1 ∧ (runS codes s n).told.steps = n ∧ (runS codes s n).told.value = 0) ∨ ((runS codes s n).told.state ≠ 1 ∧ sameB (runS codes s n).told (runS codes s (n + m)).told = true)) := by
  obtain ⟨i1, i2⟩ := run_told (codes := codes) h0 h1 h2 n
  obtain ⟨j1, j2⟩ := run_steps hc hg h3 n
  refine ⟨by rw [told_steps]; exact j1, by rw [told_steps, told_steps]; exact run_more hc hg n m, ?_⟩
  cases ho : (runS codes s n).over
  · left
    rw [told_steps, j2 ho]
    unfold Mch.told
    rw [if_neg (by rw [ho]; simp)]
    exact ⟨rfl, rfl, (i1 ho).2⟩
  · right
    rw [(run_over ho (n + m) (by omega)).1]
    refine ⟨?_, by unfold sameB; simp⟩
    unfold Mch.told
    rw [if_pos ho]
    exact i2 ho
/-- The law of the prefix. -/
theorem prefix_law (n k : Nat) (hk : k ≤ n) : (runS codes s k).told.out.length ≤ (runS codes s n).told.out.length ∧ (runS codes s k).told.out = (runS codes s n).told.out.take (runS codes s k).told.out.length := by
  obtain ⟨j, rfl⟩ := Nat.exists_eq_add_of_le hk
  rw [told_out, told_out]
  have h := run_out (codes := codes) (s := s) k j
  exact ⟨h.length_le, List.prefix_iff_eq_take.1 h⟩
end
/-- The codes of the image of raw numbers. -/
def imgC (la lb lc : List Int) (n : Nat) : List (List Mac) := [codeOf la n 3, codeOf lb n 3, codeOf lc n 3]
section
variable {la lb lc : List Int} {n : Nat}
theorem codeOf_near (hn : n ≤ 1000) (l : List Int) : (codeOf l n 3).any (farB 3) = false := by
  rw [List.any_eq_false]
  intro m hm
  have := codeOf_ok l n 3 (by omega) (by omega)
  obtain ⟨j, hj⟩ := List.mem_iff_getElem?.1 hm
  rcases codeOf_get l n 3 j m hj with ⟨a, b, c, _, rfl, _, _, _⟩ | ⟨_, rfl⟩
  · unfold farB macOf
    simp only [Bool.and_eq_true, beq_iff_eq, decide_eq_true_eq, not_and, Int.not_le]
    intro h44
    unfold numOf
    rw [h44, if_pos (show hasS (fldS 44) 114 = true by decide +kernel)]
    omega
  · decide
theorem img_rok (ha : ∀ x ∈ la, I64 x) (hb : ∀ x ∈ lb, I64 x) (hc : ∀ x ∈ lc, I64 x) (hn : n ≤ 1000) : ROk (imgR la lb lc n) := by
  have key : ∀ l : List Int, (∀ x ∈ l, I64 x) → BytesOk (codeL (codeOf l n 3)) := fun l hl =>
    codeL_bytes (by rw [codeOf_ok l n 3 (by omega) (by omega)]) (codeOf_i64 l n 3 (by omega) (by unfold I64; omega) hl (by omega))
  intro r hr
  simp only [imgR, List.mem_cons, List.not_mem_nil, or_false] at hr
  rcases hr with rfl | rfl | rfl
  · exact ⟨by show mainB.size ≤ _; decide, key la ha⟩
  · exact ⟨by show (⟨#[102]⟩ : ByteArray).size ≤ _; decide, key lb hb⟩
  · exact ⟨by show (⟨#[107]⟩ : ByteArray).size ≤ _; decide, key lc hc⟩
theorem img_read (l : List Int) (hl : ∀ x ∈ l, I64 x) (hn : n ≤ 1000) : readL (codeL (codeOf l n 3)) = ((0, 0), codeOf l n 3) :=
  read_codeL (by rw [codeOf_ok l n 3 (by omega) (by omega)]) (codeOf_i64 l n 3 (by omega) (by unfold I64; omega) hl (by omega))
theorem img_codes (ha : ∀ x ∈ la, I64 x) (hb : ∀ x ∈ lb, I64 x) (hc : ∀ x ∈ lc, I64 x) (hn : n ≤ 1000) : imgCodes (imgR la lb lc n) = imgC la lb lc n := by
  unfold imgCodes imgR imgC
  simp only [List.map_cons, List.map_nil]
  rw [img_read la ha hn, img_read lb hb hn, img_read lc hc hn]
theorem img_fine (ha : ∀ x ∈ la, I64 x) (hb : ∀ x ∈ lb, I64 x) (hc : ∀ x ∈ lc, I64 x) (hn : n ≤ 1000) : machF kGlobs (imgR la lb lc n) = (0, 0) := by
  refine machF_ok (by rw [kGlobs_fine]) (by simp [imgR]) (by simp [imgR]) fun j hj => ?_
  have hj3 : j < 3 := hj
  have key : ∀ (k : Nat) (pre : List Rout) (nm : ByteArray) (l : List Int), (∀ x ∈ l, I64 x) → rNameBad k nm = false → (rHadG kGlobs nm || rHadR pre nm) = false → rBad kGlobs 3 k pre ⟨nm, codeL (codeOf l n 3)⟩ = 0 := fun k pre nm l hl h1 h2 => by
    refine rBad_ok h1 h2 ?_ ?_
    · rw [img_read l hl hn]
    · rw [img_read l hl hn]
      exact codeOf_near hn l
  match j, hj3 with
  | 0, _ => exact key 0 [] mainB la ha main_name (by rw [main_had]; rfl)
  | 1, _ => exact key 1 _ _ lb hb (by decide +kernel) (by rw [Bool.or_eq_false_iff]; exact ⟨by decide +kernel, by simp [rHadR, imgR, mainB]⟩)
  | 2, _ => exact key 2 _ _ lc hc (by decide +kernel) (by rw [Bool.or_eq_false_iff]; exact ⟨by decide +kernel, by simp [rHadR, imgR, mainB]⟩)
  | k + 3, h => omega
theorem img_run (ha : ∀ x ∈ la, I64 x) (hb : ∀ x ∈ lb, I64 x) (hc : ∀ x ∈ lc, I64 x) (hn : n ≤ 1000) {inp : List Int} (hin : inp.length ≤ 30) {fuel : Nat} (hf : fuel ≤ 900000) :
    runF kGlobs (imgR la lb lc n) inp (fuel : Int) = (0, 0) ∧ runO kGlobs (imgR la lb lc n) inp (fuel : Int) = (runS (imgC la lb lc n) (beginS kGlobs inp) fuel).told ∧ GoodC (imgC la lb lc n) ∧ GoodS (imgC la lb lc n) (beginS kGlobs inp) := by
  have h0 := img_fine ha hb hc hn
  have hr := img_rok ha hb hc hn
  have hcs := img_codes ha hb hc hn
  have h : runF kGlobs (imgR la lb lc n) inp (fuel : Int) = (0, 0) := by
    unfold runF
    rw [h0, if_neg (by simp), if_neg (by omega), if_neg (by omega)]
  refine ⟨h, ?_, ?_, ?_⟩
  · rw [(run_fine h).1, hcs, Int.toNat_natCast]
  · rw [← hcs]; exact goodC_of hr (by rw [h0])
  · rw [← hcs]; exact good_begin hr (by rw [h0]) hin
end
end Go.Proofs.YtkiaffaieniebaaDoor
