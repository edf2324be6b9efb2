/-
  Several texts in one (RnC WkA): what each proves stands at its theorems.
  Conditions: as the theorems say.
-/
import Derived.Test.YtkiaffaieniebaaDoorRnB
import Derived.Test.YtkiaffaieniebaaDoorRuU
import Derived.Test.YtkiaffaieniebaaDoorRuJ
namespace Go.Proofs.YtkiaffaieniebaaDoor
open Go.RowKit

set_option maxHeartbeats 2000000 in
theorem RTwo_any (op a b : Int) (w : World) (h1 : 2 ≤ op) (h2 : op ≤ 15) : Calls Tryd.prog 54 #[.int .i64 op, .int .i64 a, .int .i64 b] w (TwoPost (twoS op a b) w) := by
  have h63 := i64_and63 b
  obtain ⟨f, hf⟩ : ∃ f, twoS op a b = f := ⟨_, rfl⟩
  rw [hf]
  have HF := Lib.hid hf
  clear hf
  obtain rfl | rfl | rfl | rfl | rfl | rfl | rfl | rfl | rfl | rfl | rfl | rfl | rfl | rfl : op = 2 ∨ op = 3 ∨ op = 4 ∨ op = 5 ∨ op = 6 ∨ op = 7 ∨ op = 8 ∨ op = 9 ∨ op = 10 ∨ op = 11 ∨ op = 12 ∨ op = 13 ∨ op = 14 ∨ op = 15 := by omega
  all_goals
    clear h1 h2
    by_cases hb : b = 0
    all_goals
      have Hb := Lib.hid hb
      first
        | (have hb0 : (b == 0) = false := by simp [hb])
        | (have hb0 : (b == 0) = true := by simp [hb]
           clear hb)
      obtain ⟨c, hc⟩ : ∃ c, bits .and .i64 b 63 = c := ⟨_, rfl⟩
      have Hc := Lib.hid hc
      rw [hc] at h63
      obtain ⟨hc0, hc1⟩ := h63
      go_enter Tryd.func54, Tryd.ntmps54
      go_wp2_with fail

      all_goals
        go_ret2
        (refine ⟨?_, rfl⟩)
        (rw [← HF.out])
        first
          | (simp [twoS, Hb.out, Hc.out, oneB]; done)
          | (simp only [twoS]; simp [Hc.out]; done)
          | (rename_i h; simp at h; simp [twoS, oneB, h]; done)
          | (rename_i h; try simp at h
             simp [twoS, oneB]; omega)
end Go.Proofs.YtkiaffaieniebaaDoor
namespace Go.Proofs.YtkiaffaieniebaaDoor
open Go.RowKit

def six {α : Type} (x0 x1 x2 x3 x4 x5 : α) : Nat → α
  | 0 => x0
  | 1 => x1
  | 2 => x2
  | 3 => x3
  | 4 => x4
  | _ => x5
/-- Block g is a World: the registers, the memory, the frames, who and at, what has been read, the outcome, over. -/
structure WAt (W : World) (g base : Nat) (R : Nat → Value) (X : Nat → List Int) (rd st vl sp : Int) (ov : Bool) : Prop where
  blk : Blk W g 77 #[R 0, R 1, R 2, R 3, R 4, .int .i64 rd, .int .i64 st, .int .i64 vl, R 5, .int .i64 sp, .bool ov]
  rows : ∀ i, i < 6 → W.ownsRow base 3 1 (R i) (X i).length (intV (X i))
  apart : ∀ i j, i < 6 → j < 6 → i ≠ j → ∀ b, (R i).ownBlock = some b → (R j).ownBlock ≠ some b
/-- Where the World keeps its row i. -/
def fldW (i : Nat) : Nat := if i = 5 then 8 else i
section
variable {W W' : World} {g base : Nat} {R : Nat → Value} {X : Nat → List Int} {rd st vl sp : Int} {ov : Bool}
theorem WAt.congr (h : WAt W g base R X rd st vl sp ov) {R' : Nat → Value} {X' : Nat → List Int} (hR : ∀ i, i < 6 → R i = R' i) (hX : ∀ i, i < 6 → X i = X' i) : WAt W g base R' X' rd st vl sp ov := by
  refine ⟨?_, fun i hi => by rw [← hR i hi, ← hX i hi]; exact h.rows i hi, fun i j hi hj hne b hb => by rw [← hR j hj]; exact h.apart i j hi hj hne b (by rw [hR i hi]; exact hb)⟩
  rw [← hR 0 (by omega), ← hR 1 (by omega), ← hR 2 (by omega), ← hR 3 (by omega), ← hR 4 (by omega), ← hR 5 (by omega)]
  exact h.blk
theorem WAt.below (h : WAt W g base R X rd st vl sp ov) (hb : Below W.heap.size W W') : WAt W' g base R X rd st vl sp ov :=
  ⟨h.blk.below hb h.blk.lt, fun i hi => row_lt (h.rows i hi) hb, h.apart⟩
theorem WAt.form (h : WAt W g base R X rd st vl sp ov) {i : Nat} (hi : i < 6) : ∃ A c, R i = .slice A (X i).length c := by
  obtain ⟨A, c, e⟩ := row_form (h.rows i hi)
  exact ⟨A, c, e⟩
theorem WAt.got (h : WAt W g base R X rd st vl sp ov) {i : Nat} (hi : i < 6) (hp : 0 < (X i).length) : ∃ b c, R i = .slice (some ⟨b, 0, none⟩) (X i).length c ∧ base ≤ b := by
  rcases (h.rows i hi).2 with ⟨_, h0⟩ | ⟨b, c, _, e, hb, _⟩
  · omega
  · exact ⟨b, c, e, hb⟩
theorem WAt.bases (h : WAt W g base R X rd st vl sp ov) {i : Nat} (hi : i < 6) {b n c : Nat} (hR : R i = .slice (some ⟨b, 0, none⟩) n c) : base ≤ b ∧ ∃ cs, Blk W b 3 cs := by
  rcases (h.rows i hi).2 with ⟨e, _⟩ | ⟨b', c', cur, e, hb, hh, _⟩
  · rw [hR] at e; cases e
  · rw [hR] at e; cases e; exact ⟨hb, cur, hh⟩
/-- What a row reads. -/
theorem WAt.cell (h : WAt W g base R X rd st vl sp ov) {i : Nat} (hi : i < 6) {b n c : Nat} (hR : R i = .slice (some ⟨b, 0, none⟩) n c) {j : Nat} {x : Int} (hx : (X i)[j]? = Option.some x) : W.cell? ⟨b, j, none⟩ = Option.some (.int .i64 x) := by
  have h0 := h.rows i hi
  rw [hR] at h0
  have := World.ownsRow.cells h0 (g := b) rfl j (.int .i64 x) (by unfold intV; rw [List.getElem?_map, hx]; rfl)
  rwa [show (⟨b, 0, none⟩ : Addr).add j = ⟨b, j, none⟩ by unfold Addr.add; split <;> simp_all] at this
theorem WAt.frozen (h : WAt W g base R X rd st vl sp ov) {i : Nat} (hi : i < 6) {b n c : Nat} (hR : R i = .slice (some ⟨b, 0, none⟩) n c) (j : Nat) : W.frozen? ⟨b, j, none⟩ = false := by
  obtain ⟨_, cs, hb⟩ := h.bases hi hR
  exact hb.frozen j
/-- A store into row i. -/
theorem WAt.set (h : WAt W g base R X rd st vl sp ov) (i : Nat) (hi : i < 6) {b n c : Nat} (hR : R i = .slice (some ⟨b, 0, none⟩) n c) (j : Nat) (v : Int) :
    WAt (W.setCell ⟨b, j, none⟩ (.int .i64 v)) g base R (fun k => if k = i then (X i).set j v else X k) rd st vl sp ov := by
  obtain ⟨hbase, cs, hbk⟩ := h.bases hi hR
  refine ⟨h.blk.far (p := ⟨b, j, none⟩) (Blk.types h.blk hbk (by decide)) _, fun k hk => ?_, h.apart⟩
  by_cases e : k = i
  · subst e
    rw [if_pos rfl, List.length_set, intV_set]
    have h0 := h.rows k hk
    have hn : n = (X k).length := by
      obtain ⟨A, c', e⟩ := row_form h0
      rw [hR] at e
      cases e
      rfl
    subst hn
    rw [hR] at h0 ⊢
    exact (World.ownsRow.stored h0 j _).1
  · rw [if_neg e]
    refine ownsRow_setCell_other (h.rows k hk) ?_ _
    exact h.apart i k hi hk (Ne.symm e) b (by rw [hR]; rfl)
theorem WAt.rd' (h : WAt W g base R X rd st vl sp ov) (x : Int) : WAt (W.setCell ⟨g, 5, none⟩ (.int .i64 x)) g base R X x st vl sp ov :=
  ⟨h.blk.set_ 5 _, fun i hi => row_far (h.rows i hi) h.blk (by decide) _, h.apart⟩
theorem WAt.st' (h : WAt W g base R X rd st vl sp ov) (x : Int) : WAt (W.setCell ⟨g, 6, none⟩ (.int .i64 x)) g base R X rd x vl sp ov :=
  ⟨h.blk.set_ 6 _, fun i hi => row_far (h.rows i hi) h.blk (by decide) _, h.apart⟩
theorem WAt.vl' (h : WAt W g base R X rd st vl sp ov) (x : Int) : WAt (W.setCell ⟨g, 7, none⟩ (.int .i64 x)) g base R X rd st x sp ov :=
  ⟨h.blk.set_ 7 _, fun i hi => row_far (h.rows i hi) h.blk (by decide) _, h.apart⟩
theorem WAt.sp' (h : WAt W g base R X rd st vl sp ov) (x : Int) : WAt (W.setCell ⟨g, 9, none⟩ (.int .i64 x)) g base R X rd st vl x ov :=
  ⟨h.blk.set_ 9 _, fun i hi => row_far (h.rows i hi) h.blk (by decide) _, h.apart⟩
theorem WAt.ov' (h : WAt W g base R X rd st vl sp ov) (x : Bool) : WAt (W.setCell ⟨g, 10, none⟩ (.bool x)) g base R X rd st vl sp x :=
  ⟨h.blk.set_ 10 _, fun i hi => row_far (h.rows i hi) h.blk (by decide) _, h.apart⟩
theorem blk_fld (R : Nat → Value) (rd st vl sp : Int) (ov : Bool) {i : Nat} (hi : i < 6) (v : Value) :
    (#[R 0, R 1, R 2, R 3, R 4, .int .i64 rd, .int .i64 st, .int .i64 vl, R 5, .int .i64 sp, .bool ov] : Array Value).setIfInBounds (fldW i) v =
    (let R' := fun k => if k = i then v else R k; #[R' 0, R' 1, R' 2, R' 3, R' 4, .int .i64 rd, .int .i64 st, .int .i64 vl, R' 5, .int .i64 sp, .bool ov]) := by
  match i, hi with
  | 0, _ => rfl
  | 1, _ => rfl
  | 2, _ => rfl
  | 3, _ => rfl
  | 4, _ => rfl
  | 5, _ => rfl
  | i + 6, h => omega
/-- A row laid anew: what stood beside it stands. -/
theorem WAt.put (h : WAt W g base R X rd st vl sp ov) (i : Nat) (hi : i < 6) {v' : Value} {ys : List Int} (hb : Blk W' g 77 #[R 0, R 1, R 2, R 3, R 4, .int .i64 rd, .int .i64 st, .int .i64 vl, R 5, .int .i64 sp, .bool ov])
    (hrow : W'.ownsRow base 3 1 v' ys.length (intV ys)) (hoth : ∀ k, k < 6 → k ≠ i → W'.ownsRow base 3 1 (R k) (X k).length (intV (X k))) (hap : ∀ k, k < 6 → k ≠ i → ∀ b, (R k).ownBlock = Option.some b → v'.ownBlock ≠ Option.some b) :
    WAt (W'.setCell ⟨g, fldW i, none⟩ v') g base (fun k => if k = i then v' else R k) (fun k => if k = i then ys else X k) rd st vl sp ov := by
  refine ⟨?_, fun k hk => ?_, fun k l hk hl hne b hkb => ?_⟩
  · have := hb.set_ (fldW i) v'
    rw [blk_fld R rd st vl sp ov hi v'] at this
    exact this
  · by_cases e : k = i
    · simp only [if_pos e]
      exact row_far hrow hb (by decide) _
    · simp only [if_neg e]
      exact row_far (hoth k hk e) hb (by decide) _
  · by_cases e : k = i
    · have el : l ≠ i := fun h => hne (e.trans h.symm)
      simp only [if_pos e] at hkb
      simp only [if_neg el]
      intro hlb
      exact hap l hl el b hlb hkb
    · simp only [if_neg e] at hkb
      by_cases el : l = i
      · simp only [if_pos el]
        exact hap k hk e b hkb
      · simp only [if_neg el]
        exact h.apart k l hk hl hne b hkb
/-- Row i cut to its first k. -/
theorem WAt.cut (h : WAt W g base R X rd st vl sp ov) (i : Nat) (hi : i < 6) {b n c k : Nat} (hR : R i = .slice (some ⟨b, 0, none⟩) n c) (hk : k ≤ (X i).length) :
    WAt (W.setCell ⟨g, fldW i, none⟩ (.slice (some ⟨b, 0, none⟩) k c)) g base (fun j => if j = i then .slice (some ⟨b, 0, none⟩) k c else R j) (fun j => if j = i then (X i).take k else X j) rd st vl sp ov := by
  refine h.put i hi h.blk ?_ (fun j hj _ => h.rows j hj) fun j hj hne b' hb' => ?_
  · have h0 := h.rows i hi
    rw [hR] at h0
    obtain ⟨h1, h2⟩ := h0
    rcases h2 with ⟨e, _⟩ | ⟨b', c', cur, e, hb, hh, hnc, hcm, hcs, htk⟩
    · cases e
    · cases e
      have hl : ((X i).take k).length = k := by rw [List.length_take]; omega
      refine ⟨by rw [hl]; unfold intV; rw [List.length_map, hl, Nat.mul_one], .inr ⟨b, c, cur, by rw [hl], hb, hh, by omega, hcm, hcs, ?_⟩⟩
      rw [hl, Nat.mul_one]
      rw [Nat.mul_one] at htk
      have : intV ((X i).take k) = (intV (X i)).take k := by unfold intV; rw [List.map_take]
      rw [this, ← htk, List.take_take, Nat.min_eq_left hk]
  · have := h.apart j i hj hi hne b' hb'
    rw [hR] at this
    exact this
/-- Row i grown by an append. -/
theorem WAt.app (h : WAt W g base R X rd st vl sp ov) (i : Nat) (hi : i < 6) {v' : Value} {ys : List Int} {H : Nat} (hH : W.heap.size ≤ H) (hap : Appended W base 3 1 (R i) ((X i).length + ys.length) (intV (X i) ++ intV ys) H v' W') :
    WAt (W'.setCell ⟨g, fldW i, none⟩ v') g base (fun k => if k = i then v' else R k) (fun k => if k = i then X i ++ ys else X k) rd st vl sp ov := by
  refine h.put i hi (hap.blk (h.rows i hi) h.blk (by decide)) ?_ (fun k hk hne => hap.row (h.rows k hk) (h.apart k i hk hi hne)) fun k hk hne b hb => ?_
  · rw [List.length_append, show intV (X i ++ ys) = intV (X i) ++ intV ys by unfold intV; rw [List.map_append]]
    exact hap.own
  · rcases hap.2.2.2 with e | e
    · rw [e]; exact h.apart k i hk hi hne b hb
    · rw [e]
      have := (World.ownsRow.lt (h.rows k hk) b hb).2
      intro he
      simp only [Option.some.injEq] at he
      omega
end
/-- The frames, the oldest first, all in one list. -/
def framesW (cs : List Fr) : List Int := (cs.reverse.map Fr.ws).flatten
def whoW (cs : List Fr) : List Int := cs.reverse.map fun c => (c.r : Int)
def atW (cs : List Fr) : List Int := cs.reverse.map fun c => (c.pc : Int)
def wX (s : Mch) : Nat → List Int := six s.regs s.mem (framesW s.calls) (whoW s.calls) (atW s.calls) s.out
theorem framesW_cons (c : Fr) (cs : List Fr) : framesW (c :: cs) = framesW cs ++ c.ws := by
  unfold framesW
  rw [List.reverse_cons, List.map_append, List.flatten_append]
  simp
theorem whoW_cons (c : Fr) (cs : List Fr) : whoW (c :: cs) = whoW cs ++ [(c.r : Int)] := by unfold whoW; rw [List.reverse_cons, List.map_append]; rfl
theorem atW_cons (c : Fr) (cs : List Fr) : atW (c :: cs) = atW cs ++ [(c.pc : Int)] := by unfold atW; rw [List.reverse_cons, List.map_append]; rfl
theorem whoW_len (cs : List Fr) : (whoW cs).length = cs.length := by unfold whoW; simp
theorem atW_len (cs : List Fr) : (atW cs).length = cs.length := by unfold atW; simp
theorem framesW_len : ∀ cs : List Fr, (∀ c ∈ cs, c.ws.length = 120) → (framesW cs).length = 120 * cs.length
  | [], _ => rfl
  | c :: cs, h => by
    rw [framesW_cons, List.length_append, framesW_len cs (fun d hd => h d (List.mem_cons_of_mem _ hd)), h c (List.mem_cons_self ..), List.length_cons]
    omega
/-- What the reference machine stands for. -/
def WIs (W : World) (g base : Nat) (inp : List Int) (s : Mch) : Prop := ∃ R rd, WAt W g base R (wX s) ((rd : Nat) : Int) s.state s.value (s.steps : Int) s.over ∧ rd ≤ inp.length ∧ s.input = inp.drop rd
theorem wX_set (s : Mch) (d : Nat) (v : Int) (i : Nat) (hi : i < 6) : (if i = 0 then (wX s 0).set d v else wX s i) = wX (s.set (d : Int) v) i := by
  match i, hi with
  | 0, _ => show s.regs.set d v = s.regs.set (d : Int).toNat v; rw [Int.toNat_natCast]
  | 1, _ => rfl
  | 2, _ => rfl
  | 3, _ => rfl
  | 4, _ => rfl
  | 5, _ => rfl
  | i + 6, h => omega
theorem WIs.below {W W' : World} {g base : Nat} {inp : List Int} {s : Mch} (h : WIs W g base inp s) (hb : Below W.heap.size W W') : WIs W' g base inp s := by
  obtain ⟨R, rd, h1, h2⟩ := h
  exact ⟨R, rd, h1.below hb, h2⟩
theorem WIs.drew {W : World} {g base : Nat} {inp : List Int} {s : Mch} (h : WIs W g base inp s) : WIs W.drew g base inp s := h.below (below_drew (Below.refl _ _))
theorem wX_jump (s : Mch) (c : Fr) (cs : List Fr) (hc : s.calls = c :: cs) (jn : Nat) (i : Nat) (hi : i < 6) : (if i = 4 then (wX s 4).set cs.length (jn : Int) else wX s i) = wX { s with calls := { c with pc := (jn : Int).toNat } :: cs } i := by
  match i, hi with
  | 0, _ => rfl
  | 1, _ => rfl
  | 2, _ => show framesW s.calls = framesW (_ :: cs); rw [hc, framesW_cons, framesW_cons]
  | 3, _ => show whoW s.calls = whoW (_ :: cs); rw [hc, whoW_cons, whoW_cons]
  | 4, _ =>
    show (atW s.calls).set _ _ = atW (_ :: cs)
    rw [hc, atW_cons, atW_cons, List.set_append_right _ _ (by rw [atW_len]; exact Nat.le_refl _), atW_len, Nat.sub_self, Int.toNat_natCast]
    rfl
  | 5, _ => rfl
  | i + 6, h => omega
end Go.Proofs.YtkiaffaieniebaaDoor
