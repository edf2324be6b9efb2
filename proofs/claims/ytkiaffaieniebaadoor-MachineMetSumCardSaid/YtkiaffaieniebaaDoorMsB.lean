/-
  Several texts in one (MsA MsB): what each proves stands at its theorems.
  Conditions: as the theorems say.
-/
import Derived.Test.YtkiaffaieniebaaDoorMtC
import Derived.Test.YtkiaffaieniebaaDoorRuT
import Derived.Test.YtkiaffaieniebaaDoorRuY
namespace Go.Proofs.YtkiaffaieniebaaDoor
open Go.RowKit

/-- f 0 + .. + f (n - 1). -/
def sumR (f : Nat → Int) : Nat → Int
  | 0 => 0
  | n + 1 => sumR f n + f n
theorem sumR_add (f g : Nat → Int) : ∀ n, sumR (fun i => f i + g i) n = sumR f n + sumR g n
  | 0 => rfl
  | n + 1 => by
    simp only [sumR]
    rw [sumR_add f g n]
    omega
theorem sumR_congr {f g : Nat → Int} : ∀ n, (∀ i, i < n → f i = g i) → sumR f n = sumR g n
  | 0, _ => rfl
  | n + 1, h => by
    simp only [sumR]
    rw [sumR_congr n fun i hi => h i (by omega), h n (by omega)]
theorem sumR_zero {f : Nat → Int} : ∀ n, (∀ i, i < n → f i = 0) → sumR f n = 0
  | 0, _ => rfl
  | n + 1, h => by
    simp only [sumR]
    rw [sumR_zero n fun i hi => h i (by omega), h n (by omega)]
    rfl
theorem sumR_one {f : Nat → Int} {a : Nat} (ha : f a = 1) (ho : ∀ i, i ≠ a → f i = 0) : ∀ n, a < n → sumR f n = 1
  | 0, h => absurd h (Nat.not_lt_zero _)
  | n + 1, h => by
    simp only [sumR]
    by_cases e : n = a
    · subst e
      rw [sumR_zero n fun i hi => ho i (by omega), ha]
      rfl
    · rw [sumR_one ha ho n (by omega), ho n e]
      rfl
theorem sumR_pos {f : Nat → Int} (h : ∀ i, 0 ≤ f i) : ∀ n, 0 ≤ sumR f n
  | 0 => Int.le_refl _
  | n + 1 => by
    have := sumR_pos h n
    have := h n
    simp only [sumR]
    omega
theorem sumR_le {f : Nat → Int} (h : ∀ i, 0 ≤ f i) (n : Nat) : ∀ m, sumR f n ≤ sumR f (n + m)
  | 0 => Int.le_refl _
  | m + 1 => by
    have := sumR_le h n m
    have := h (n + m)
    show _ ≤ sumR f (n + m) + f (n + m)
    omega
/-- The counts of routine r. -/
def lineF (tr : List (Nat × Nat)) (r : Nat) (i : Nat) : Int := ((tr.count (r, i) : Nat) : Int)
def rowsF (len : Nat → Nat) (tr : List (Nat × Nat)) (r : Nat) : Int := sumR (lineF tr r) (len r)
theorem lineF_pos (tr : List (Nat × Nat)) (r i : Nat) : 0 ≤ lineF tr r i := Int.natCast_nonneg _
theorem rowsF_pos (len : Nat → Nat) (tr : List (Nat × Nat)) (r : Nat) : 0 ≤ rowsF len tr r := sumR_pos (lineF_pos tr r) _
theorem sum_counts {len : Nat → Nat} {n : Nat} : ∀ tr : List (Nat × Nat), (∀ p ∈ tr, p.1 < n ∧ p.2 < len p.1) → sumR (rowsF len tr) n = (tr.length : Int)
  | [], _ => sumR_zero n fun r _ => sumR_zero _ fun i _ => rfl
  | p :: tr, h => by
    have ih := sum_counts tr fun q hq => h q (List.mem_cons_of_mem _ hq)
    obtain ⟨h1, h2⟩ := h p (List.mem_cons_self ..)
    have e1 : ∀ r, rowsF len (p :: tr) r = rowsF len tr r + (if r = p.1 then 1 else 0) := fun r => by
      unfold rowsF
      rw [sumR_congr (g := fun i => lineF tr r i + (if p = (r, i) then 1 else 0)) (len r) fun i _ => by
        unfold lineF
        rw [List.count_cons]
        by_cases e : p = (r, i)
        · rw [if_pos e, if_pos (by simpa using e)]; push_cast; omega
        · rw [if_neg e, if_neg (by simpa using e)]; push_cast; omega, sumR_add]
      congr 1
      by_cases er : r = p.1
      · subst er
        rw [if_pos rfl]
        exact sumR_one (a := p.2) (if_pos rfl) (fun i hi => if_neg fun e => hi (by rw [e])) _ h2
      · rw [if_neg er]
        exact sumR_zero _ fun i _ => if_neg fun e => er (by rw [e])
    rw [sumR_congr (g := fun r => rowsF len tr r + (if r = p.1 then 1 else 0)) n fun r _ => e1 r, sumR_add, ih, sumR_one (a := p.1) (if_pos rfl) (fun i hi => if_neg hi) n h1]
    rw [List.length_cons]
    push_cast
    omega
/-- The sum up to a place is no more than all. -/
theorem sum_upto {len : Nat → Nat} {n k q : Nat} {tr : List (Nat × Nat)} (h : ∀ p ∈ tr, p.1 < n ∧ p.2 < len p.1) (hk : k < n) (hq : q ≤ len k) : 0 ≤ sumR (rowsF len tr) k + sumR (lineF tr k) q ∧ sumR (rowsF len tr) k + sumR (lineF tr k) q ≤ (tr.length : Int) := by
  have h0 := sumR_pos (rowsF_pos len tr) k
  have h1 := sumR_pos (lineF_pos tr k) q
  obtain ⟨d, rfl⟩ := Nat.exists_eq_add_of_lt hk
  obtain ⟨c, hc⟩ := Nat.exists_eq_add_of_le hq
  have h2 := sumR_le (lineF_pos tr k) q c
  rw [← hc] at h2
  have h3 := sumR_le (rowsF_pos len tr) (k + 1) d
  have h4 := sum_counts tr h
  rw [show k + d + 1 = k + 1 + d by omega] at h4
  have h5 : sumR (rowsF len tr) (k + 1) = sumR (rowsF len tr) k + sumR (lineF tr k) (len k) := rfl
  omega
theorem met_mono {codes : List (List Mac)} {s : Mch} {p : Nat × Nat} {k : Nat} (h : p ∈ metS codes s k) : p ∈ metS codes s (k + 1) := by
  show p ∈ (if _ then _ else _ : List (Nat × Nat))
  split
  · exact h
  · exact List.mem_append_left _ h
/-- The first instruction of main is met if there is fuel. -/
theorem first_met (codes : List (List Mac)) (mem inp : List Int) : ∀ n, (n = 0) = ((metS codes (startS mem inp) n).count (0, 0) = 0)
  | 0 => by simp [metS]
  | n + 1 => by
    have key : ∀ k, (0, 0) ∈ metS codes (startS mem inp) (k + 1) := by
      intro k
      induction k with
      | zero => show (0, 0) ∈ (if _ then _ else _ : List (Nat × Nat)); rw [if_neg (show ¬ ((runS codes (startS mem inp) 0).over = true) from fun h => by cases h)]; exact List.mem_append_right _ (by simp [runS, startS, Mch.pos])
      | succ k ih => exact met_mono ih
    have := List.count_pos_iff.2 (key n)
    simp only [eq_iff_iff]
    omega
/-- What Met yields. -/
def metV (s : Mch) (v ov : Value) : Value := .tuple #[v, outV s ov, faultV (0, 0)]
def slots11 : List Nat := [2, 4, 5, 6, 7, 8, 9, 10, 11, 12, 13]
/-- What has been done of 'met, x, e := machine.Met(..)', and what the world holds of it. -/
def ThrRun (pv : Nat → Option Value) (base : Nat) (w0 : World) (xs : List Int) (s : Mch) (xss : List (List Int)) (σ : Nat → Option Value) (w : World) : Prop :=
  ∃ v ov g1 g2, Below base w0 w ∧ base ≤ w.heap.size ∧
    (∀ j v, pv j = some v → ∀ u, σ j = some u → u = v) ∧
    (∀ u, σ 2 = some u → w.ownsRow base 3 1 u xs.length (intV xs)) ∧
    (∀ u, σ 4 = some u → u = metV s v ov ∧ w.ownsRow base 3 1 ov s.out.length (intV s.out) ∧ RowsOwn w base v xss) ∧
    (∀ u, σ 5 = some u → u = metV s v ov) ∧ (∀ u, σ 6 = some u → u = v) ∧ (∀ u, σ 7 = some u → u = outV s ov) ∧ (∀ u, σ 8 = some u → u = faultV (0, 0)) ∧
    (∀ u, σ 9 = some u → u = ptrV g1 ∧ base ≤ g1 ∧ (σ 12 = none → Blk w g1 28 zeroO) ∧ (∀ t, σ 12 = some t → Blk w g1 28 (outC s ov))) ∧
    (∀ u, σ 10 = some u → u = ptrV g2 ∧ base ≤ g2 ∧ (σ 13 = none → Blk w g2 30 zeroF) ∧ (∀ t, σ 13 = some t → Blk w g2 30 (faultC (0, 0)))) ∧
    (∀ u, σ 11 = some u → u = v)
theorem RowsOwn.far {w : World} {base : Nat} {v : Value} {xss : List (List Int)} (h : RowsOwn w base v xss) {g o : Nat} {t : TypeId} {cs : Array Value} (hb : Blk w g t cs) (h1 : 26 ≠ t) (h2 : 3 ≠ t) (u : Value) : RowsOwn (w.setCell ⟨g, o, none⟩ u) base v xss := by
  obtain ⟨rs, q1, q2, q3⟩ := h
  exact ⟨rs, q1, row_far q2 hb h1 u, fun i r xs hr hx => row_far (q3 i r xs hr hx) hb h2 u⟩
section
variable {pv σ : Nat → Option Value} {base : Nat} {w0 : World} {xs : List Int} {s : Mch} {xss : List (List Int)} {w w' : World}
theorem ThrRun.start (hb : Below base w0 w) (hz : base ≤ w.heap.size) : ThrRun pv base w0 xs s xss (fun _ => none) w :=
  ⟨undef, undef, 0, 0, hb, hz, by simp, by simp, by simp, by simp, by simp, by simp, by simp, by simp, by simp, by simp⟩
theorem ThrRun.low (h : ThrRun pv base w0 xs s xss σ w) : Below base w0 w ∧ base ≤ w.heap.size := by
  obtain ⟨_, _, _, _, h1, hz, _⟩ := h
  exact ⟨h1, hz⟩
theorem ThrRun.below (h : ThrRun pv base w0 xs s xss σ w) (hb : Below w.heap.size w w') : ThrRun pv base w0 xs s xss σ w' := by
  obtain ⟨v, ov, g1, g2, h1, hz, h2, h3, h4, h5, h6, h7, h8, h9, h10, h11⟩ := h
  refine ⟨v, ov, g1, g2, h1.trans (hb.mono hz), Nat.le_trans hz hb.size, h2, fun u hu => row_lt (h3 u hu) hb, fun u hu => ⟨(h4 u hu).1, row_lt (h4 u hu).2.1 hb, (h4 u hu).2.2.below hb rfl⟩, h5, h6, h7, h8, fun u hu => ?_, fun u hu => ?_, h11⟩
  · obtain ⟨e1, e2, e3, e4⟩ := h9 u hu
    exact ⟨e1, e2, fun hs => (e3 hs).below hb (e3 hs).lt, fun v hs => (e4 v hs).below hb (e4 v hs).lt⟩
  · obtain ⟨e1, e2, e3, e4⟩ := h10 u hu
    exact ⟨e1, e2, fun hs => (e3 hs).below hb (e3 hs).lt, fun v hs => (e4 v hs).below hb (e4 v hs).lt⟩
theorem ThrRun.val (h : ThrRun pv base w0 xs s xss σ w) {j : Nat} {u v : Value} (hu : σ j = some u) (hv : pv j = some v) : u = v := by
  obtain ⟨_, _, _, _, _, _, h2, _⟩ := h
  exact h2 j v hv u hu
theorem ThrRun.known (h : ThrRun pv base w0 xs s xss σ w) {k : Nat} {v : Value} (hk : pv k = some v) (hd : ∀ j ∈ slots11, pv j = none) : ThrRun pv base w0 xs s xss (upd σ k v) w := by
  obtain ⟨v0, ov, g1, g2, h1, hz, h2, h3, h4, h5, h6, h7, h8, h9, h10, h11⟩ := h
  have ne : ∀ j ∈ slots11, upd σ k v j = σ j := fun j hj => upd_ne fun e => by rw [← e, hd j hj] at hk; cases hk
  simp only [slots11, List.forall_mem_cons, List.not_mem_nil, false_implies, implies_true, and_true] at ne
  obtain ⟨n2, n4, n5, n6, n7, n8, n9, n10, n11, n12, n13⟩ := ne
  rw [ThrRun, n2, n4, n5, n6, n7, n8, n9, n10, n11, n12, n13]
  refine ⟨v0, ov, g1, g2, h1, hz, fun j v' hj u hu => ?_, h3, h4, h5, h6, h7, h8, h9, h10, h11⟩
  by_cases e : j = k
  · subst e
    rw [upd_same] at hu
    rw [hk] at hj
    cases hj
    cases hu
    rfl
  · rw [upd_ne e] at hu
    exact h2 j v' hj u hu
theorem thr_keep (hd : ∀ j ∈ slots11, pv j = none) {k : Nat} (hk : k ∈ slots11) (x : Value) (h : ∀ j v, pv j = some v → ∀ u, σ j = some u → u = v) : ∀ j v, pv j = some v → ∀ u, upd σ k x j = some u → u = v := by
  intro j v hj u hu
  rw [upd_ne (fun e => by subst e; rw [hd _ hk] at hj; cases hj)] at hu
  exact h j v hj u hu
theorem ThrRun.input (h : ThrRun pv base w0 xs s xss σ w) (hd : ∀ j ∈ slots11, pv j = none) {u : Value} (hb : Below w.heap.size w w') (hu : w'.ownsRow w.heap.size 3 1 u xs.length (intV xs)) : ThrRun pv base w0 xs s xss (upd σ 2 u) w' := by
  have hz0 := h.low.2
  obtain ⟨v0, ov, g1, g2, h1, hz, h2, h3, h4, h5, h6, h7, h8, h9, h10, h11⟩ := h.below hb
  exact ⟨v0, ov, g1, g2, h1, hz, thr_keep hd (by simp [slots11]) u h2, fun x hx => by rw [upd_same] at hx; cases hx; exact row_more hu hz0, h4, h5, h6, h7, h8, h9, h10, h11⟩
theorem ThrRun.isInput (h : ThrRun pv base w0 xs s xss σ w) {u : Value} (hu : σ 2 = some u) : w.ownsRow base 3 1 u xs.length (intV xs) := by
  obtain ⟨_, _, _, _, _, _, _, h3, _⟩ := h
  exact h3 u hu
theorem ThrRun.run (h : ThrRun pv base w0 xs s xss σ w) (hd : ∀ j ∈ slots11, pv j = none) {v ov : Value} (hb : Below w.heap.size w w') (ho : w'.ownsRow w.heap.size 3 1 ov s.out.length (intV s.out)) (hr : RowsOwn w' w.heap.size v xss)
    (n5 : σ 5 = none) (n6 : σ 6 = none) (n7 : σ 7 = none) (n11 : σ 11 = none) (n12 : σ 12 = none) : ThrRun pv base w0 xs s xss (upd σ 4 (metV s v ov)) w' := by
  have hz0 := h.low.2
  obtain ⟨v0, ov0, g1, g2, h1, hz, h2, h3, h4, h5, h6, h7, h8, h9, h10, h11⟩ := h.below hb
  refine ⟨v, ov, g1, g2, h1, hz, thr_keep hd (by simp [slots11]) _ h2, h3, fun x hx => ?_, fun x hx => ?_, fun x hx => ?_, fun x hx => ?_, h8, fun x hx => ?_, h10, fun x hx => ?_⟩
  · rw [upd_same] at hx; cases hx; exact ⟨rfl, row_more ho hz0, hr.more hz0⟩
  · rw [upd_ne (by decide), n5] at hx; cases hx
  · rw [upd_ne (by decide), n6] at hx; cases hx
  · rw [upd_ne (by decide), n7] at hx; cases hx
  · obtain ⟨e1, e2, e3, e4⟩ := h9 x hx
    exact ⟨e1, e2, e3, fun t ht => by rw [upd_ne (by decide), n12] at ht; cases ht⟩
  · rw [upd_ne (by decide), n11] at hx; cases hx
theorem metV_inj {a b c d : Value} (h : metV s a b = metV s c d) : a = c ∧ b = d := by
  unfold metV at h
  simp only [Value.tuple.injEq, Array.mk.injEq, List.cons.injEq, and_true] at h
  exact ⟨h.1, outV_inj h.2⟩
theorem ThrRun.copy (h : ThrRun pv base w0 xs s xss σ w) (hd : ∀ j ∈ slots11, pv j = none) {u : Value} (hu : σ 4 = some u) : ThrRun pv base w0 xs s xss (upd σ 5 u) w := by
  obtain ⟨v0, ov, g1, g2, h1, hz, h2, h3, h4, h5, h6, h7, h8, h9, h10, h11⟩ := h
  exact ⟨v0, ov, g1, g2, h1, hz, thr_keep hd (by simp [slots11]) u h2, h3, h4, fun x hx => by rw [upd_same] at hx; cases hx; exact (h4 u hu).1, h6, h7, h8, h9, h10, h11⟩
theorem ThrRun.isCopy (h : ThrRun pv base w0 xs s xss σ w) (hd : ∀ j ∈ slots11, pv j = none) {u : Value} (hu : σ 5 = some u) : ∃ v ov, u = metV s v ov ∧ ThrRun pv base w0 xs s xss (upd σ 6 v) w ∧ ThrRun pv base w0 xs s xss (upd σ 7 (outV s ov)) w ∧ ThrRun pv base w0 xs s xss (upd σ 8 (faultV (0, 0))) w := by
  obtain ⟨v0, ov, g1, g2, h1, hz, h2, h3, h4, h5, h6, h7, h8, h9, h10, h11⟩ := h
  refine ⟨v0, ov, h5 u hu, ?_, ?_, ?_⟩
  · exact ⟨v0, ov, g1, g2, h1, hz, thr_keep hd (by simp [slots11]) _ h2, h3, h4, h5, fun x hx => by rw [upd_same] at hx; cases hx; rfl, h7, h8, h9, h10, h11⟩
  · exact ⟨v0, ov, g1, g2, h1, hz, thr_keep hd (by simp [slots11]) _ h2, h3, h4, h5, h6, fun x hx => by rw [upd_same] at hx; cases hx; rfl, h8, h9, h10, h11⟩
  · exact ⟨v0, ov, g1, g2, h1, hz, thr_keep hd (by simp [slots11]) _ h2, h3, h4, h5, h6, h7, fun x hx => by rw [upd_same] at hx; cases hx; rfl, h9, h10, h11⟩
theorem ThrRun.keep (h : ThrRun pv base w0 xs s xss σ w) (hd : ∀ j ∈ slots11, pv j = none) {u : Value} (hu : σ 6 = some u) : ThrRun pv base w0 xs s xss (upd σ 11 u) w := by
  obtain ⟨v0, ov, g1, g2, h1, hz, h2, h3, h4, h5, h6, h7, h8, h9, h10, h11⟩ := h
  exact ⟨v0, ov, g1, g2, h1, hz, thr_keep hd (by simp [slots11]) u h2, h3, h4, h5, h6, h7, h8, h9, h10, fun x hx => by rw [upd_same] at hx; cases hx; exact h6 u hu⟩
theorem ThrRun.var1 (h : ThrRun pv base w0 xs s xss σ w) (hd : ∀ j ∈ slots11, pv j = none) (n12 : σ 12 = none) : ThrRun pv base w0 xs s xss (upd σ 9 (ptrV w.heap.size)) (w.alloc (.cells zeroO 28)) := by
  have hz0 := h.low.2
  obtain ⟨v0, ov, g1, g2, h1, hz, h2, h3, h4, h5, h6, h7, h8, h9, h10, h11⟩ := h.below ((Below.refl _ _).alloc (Nat.le_refl _) (.cells zeroO 28))
  exact ⟨v0, ov, w.heap.size, g2, h1, hz, thr_keep hd (by simp [slots11]) _ h2, h3, h4, h5, h6, h7, h8, fun x hx => by rw [upd_same] at hx; cases hx; exact ⟨rfl, hz0, fun _ => Blk.new _ _ _, fun t ht => by rw [upd_ne (by decide), n12] at ht; cases ht⟩, h10, h11⟩
theorem ThrRun.var2 (h : ThrRun pv base w0 xs s xss σ w) (hd : ∀ j ∈ slots11, pv j = none) (n13 : σ 13 = none) : ThrRun pv base w0 xs s xss (upd σ 10 (ptrV w.heap.size)) (w.alloc (.cells zeroF 30)) := by
  have hz0 := h.low.2
  obtain ⟨v0, ov, g1, g2, h1, hz, h2, h3, h4, h5, h6, h7, h8, h9, h10, h11⟩ := h.below ((Below.refl _ _).alloc (Nat.le_refl _) (.cells zeroF 30))
  exact ⟨v0, ov, g1, w.heap.size, h1, hz, thr_keep hd (by simp [slots11]) _ h2, h3, h4, h5, h6, h7, h8, h9, fun x hx => by rw [upd_same] at hx; cases hx; exact ⟨rfl, hz0, fun _ => Blk.new _ _ _, fun t ht => by rw [upd_ne (by decide), n13] at ht; cases ht⟩, h11⟩
theorem ThrRun.store1 (h : ThrRun pv base w0 xs s xss σ w) (hd : ∀ j ∈ slots11, pv j = none) {p q r : Value} (hp : σ 9 = some p) (hq : σ 7 = some q) (hr : σ 4 = some r) (n12 : σ 12 = none) :
    ∃ A n c g, p = ptrV g ∧ q = outV s (.slice A n c) ∧ Blk w g 28 zeroO ∧ ThrRun pv base w0 xs s xss (upd σ 12 undef) ((((w.setCell ⟨g, 0, none⟩ (.int .i64 s.state)).setCell ⟨g, 1, none⟩ (.int .i64 s.value)).setCell ⟨g, 2, none⟩ (.slice A n c)).setCell ⟨g, 3, none⟩ (.int .i64 (s.steps : Int))) := by
  obtain ⟨v0, ov, g1, g2, h1, hz, h2, h3, h4, h5, h6, h7, h8, h9, h10, h11⟩ := h
  obtain ⟨rfl, b1, b2, b3⟩ := h9 p hp
  have hk := b2 n12
  obtain ⟨A, c, rfl⟩ := row_form (h4 _ hr).2.1
  refine ⟨A, _, c, g1, rfl, h7 q hq, hk, ?_⟩
  have hk1 := hk.set_ 0 (.int .i64 s.state)
  have hk2 := hk1.set_ 1 (.int .i64 s.value)
  have hk3 := hk2.set_ 2 (.slice A s.out.length c)
  have hrow : ∀ {v : Value} {n : Nat} {ys : List Value}, w.ownsRow base 3 1 v n ys → ((((w.setCell ⟨g1, 0, none⟩ (.int .i64 s.state)).setCell ⟨g1, 1, none⟩ (.int .i64 s.value)).setCell ⟨g1, 2, none⟩ (.slice A s.out.length c)).setCell ⟨g1, 3, none⟩ (.int .i64 (s.steps : Int))).ownsRow base 3 1 v n ys :=
    fun hr => row_far (row_far (row_far (row_far hr hk (by decide) _) hk1 (by decide) _) hk2 (by decide) _) hk3 (by decide) _
  have hfar : ∀ {cs : Array Value}, Blk w g2 30 cs → Blk ((((w.setCell ⟨g1, 0, none⟩ (.int .i64 s.state)).setCell ⟨g1, 1, none⟩ (.int .i64 s.value)).setCell ⟨g1, 2, none⟩ (.slice A s.out.length c)).setCell ⟨g1, 3, none⟩ (.int .i64 (s.steps : Int))) g2 30 cs := fun hr => by
    have hne : g2 ≠ g1 := Blk.types hr hk (by decide)
    exact (((hr.far (p := ⟨g1, 0, none⟩) hne _).far (p := ⟨g1, 1, none⟩) hne _).far (p := ⟨g1, 2, none⟩) hne _).far (p := ⟨g1, 3, none⟩) hne _
  refine ⟨v0, _, g1, g2, (((h1.setCell b1 _).setCell b1 _).setCell b1 _).setCell b1 _, by simpa using hz, thr_keep hd (by simp [slots11]) _ h2, fun u hu => hrow (h3 u hu), fun u hu => ⟨(h4 u hu).1, hrow (h4 u hu).2.1, ((((h4 u hu).2.2.far hk (by decide) (by decide) _).far hk1 (by decide) (by decide) _).far hk2 (by decide) (by decide) _).far hk3 (by decide) (by decide) _⟩, h5, h6, h7, h8, fun x hx => ⟨?_, b1, fun hn => ?_, fun _ _ => hk3.set_ 3 (.int .i64 (s.steps : Int))⟩, fun x hx => ?_, h11⟩
  · have : σ 9 = some x := hx
    rw [hp] at this; cases this; rfl
  · rw [upd_same] at hn; cases hn
  · obtain ⟨c1, c2, c3, c4⟩ := h10 x hx
    exact ⟨c1, c2, fun hs => hfar (c3 hs), fun u hu => hfar (c4 u hu)⟩
theorem ThrRun.store2 (h : ThrRun pv base w0 xs s xss σ w) (hd : ∀ j ∈ slots11, pv j = none) {p q : Value} (hp : σ 10 = some p) (hq : σ 8 = some q) (n13 : σ 13 = none) :
    ∃ g, p = ptrV g ∧ q = faultV (0, 0) ∧ Blk w g 30 zeroF ∧ ThrRun pv base w0 xs s xss (upd σ 13 undef) ((w.setCell ⟨g, 0, none⟩ (.int .i64 0)).setCell ⟨g, 1, none⟩ (.int .i64 0)) := by
  obtain ⟨v0, ov, g1, g2, h1, hz, h2, h3, h4, h5, h6, h7, h8, h9, h10, h11⟩ := h
  obtain ⟨rfl, b1, b2, b3⟩ := h10 p hp
  have hk := b2 n13
  refine ⟨g2, rfl, h8 q hq, hk, ?_⟩
  have hk1 := hk.set_ 0 (.int .i64 0)
  have hrow : ∀ {v : Value} {n : Nat} {ys : List Value}, w.ownsRow base 3 1 v n ys → ((w.setCell ⟨g2, 0, none⟩ (.int .i64 0)).setCell ⟨g2, 1, none⟩ (.int .i64 0)).ownsRow base 3 1 v n ys :=
    fun hr => row_far (row_far hr hk (by decide) _) hk1 (by decide) _
  have hfar : ∀ {cs : Array Value}, Blk w g1 28 cs → Blk ((w.setCell ⟨g2, 0, none⟩ (.int .i64 0)).setCell ⟨g2, 1, none⟩ (.int .i64 0)) g1 28 cs := fun hr => by
    have hne : g1 ≠ g2 := Blk.types hr hk (by decide)
    exact (hr.far (p := ⟨g2, 0, none⟩) hne _).far (p := ⟨g2, 1, none⟩) hne _
  refine ⟨v0, ov, g1, g2, (h1.setCell b1 _).setCell b1 _, by simpa using hz, thr_keep hd (by simp [slots11]) _ h2, fun u hu => hrow (h3 u hu), fun u hu => ⟨(h4 u hu).1, hrow (h4 u hu).2.1, ((h4 u hu).2.2.far hk (by decide) (by decide) _).far hk1 (by decide) (by decide) _⟩, h5, h6, h7, h8, fun x hx => ?_, fun x hx => ⟨?_, b1, fun hn => ?_, fun _ _ => hk1.set_ 1 (.int .i64 0)⟩, h11⟩
  · obtain ⟨c1, c2, c3, c4⟩ := h9 x hx
    exact ⟨c1, c2, fun hs => hfar (c3 hs), fun u hu => hfar (c4 u hu)⟩
  · have : σ 10 = some x := hx
    rw [hp] at this; cases this; rfl
  · rw [upd_same] at hn; cases hn
theorem ThrRun.done (h : ThrRun pv base w0 xs s xss σ w) {p1 p2 q1 q2 r m : Value} (ha1 : σ 9 = some p1) (ha2 : σ 10 = some p2) (hs1 : σ 12 = some q1) (hs2 : σ 13 = some q2) (hr : σ 4 = some r) (hm : σ 11 = some m) :
    ∃ ov g1 g2, p1 = ptrV g1 ∧ p2 = ptrV g2 ∧ Blk w g1 28 (outC s ov) ∧ Blk w g2 30 (faultC (0, 0)) ∧ base ≤ g1 ∧ base ≤ g2 ∧ w.ownsRow base 3 1 ov s.out.length (intV s.out) ∧ RowsOwn w base m xss ∧ Below base w0 w := by
  obtain ⟨v0, ov, g1, g2, h1, hz, h2, h3, h4, h5, h6, h7, h8, h9, h10, h11⟩ := h
  obtain ⟨b1, b2, b3, b4⟩ := h9 _ ha1
  obtain ⟨c1, c2, c3, c4⟩ := h10 _ ha2
  obtain rfl := h11 _ hm
  exact ⟨ov, g1, g2, b1, c1, b4 _ hs1, c4 _ hs2, b2, c2, (h4 _ hr).2.1, (h4 _ hr).2.2, h1⟩
theorem pv3_eleven (a b c : Value) : ∀ j ∈ slots11, pv3 a b c j = none := by
  intro j hj
  simp only [slots11, List.mem_cons, List.not_mem_nil, or_false] at hj
  rcases hj with rfl | rfl | rfl | rfl | rfl | rfl | rfl | rfl | rfl | rfl | rfl <;> rfl
end
end Go.Proofs.YtkiaffaieniebaaDoor
namespace Go.Proofs.YtkiaffaieniebaaDoor
open Go.RowKit

/-- Counting a run of the image of raw numbers, in every later world. -/
theorem Met_img {la lb lc : List Int} {k : Nat} {gv rv : Value} {W : World} (ha : ∀ x ∈ la, I64 x) (hb : ∀ x ∈ lb, I64 x) (hc : ∀ x ∈ lc, I64 x) (hk : k ≤ 1000)
    (hg : GlobsAt W W.heap.size gv kGlobs) (hr : RoutsAt W W.heap.size rv (imgR la lb lc k)) (ht : Tab W) {xs : List Int} (hx : xs.length ≤ 30) {base : Nat} {iv : Value} {V : World} {n : Nat} (hn : n ≤ 900000)
    (hV : Below W.heap.size W V) (hi : V.ownsRow base 3 1 iv xs.length (intV xs)) :
    Calls Tryd.prog 18 #[.agg #[gv, rv], iv, .int .i64 (n : Int)] V fun e w' => ∃ v ov, e = .returned (metV (runS (imgC la lb lc k) (beginS kGlobs xs) n).told v ov) ∧
      w'.ownsRow V.heap.size 3 1 ov (runS (imgC la lb lc k) (beginS kGlobs xs) n).told.out.length (intV (runS (imgC la lb lc k) (beginS kGlobs xs) n).told.out) ∧
      RowsOwn w' V.heap.size v (metRows (imgC la lb lc k) (metS (imgC la lb lc k) (beginS kGlobs xs) n)) ∧ Below V.heap.size V w' := by
  obtain ⟨q1, q2, _⟩ := img_run ha hb hc hk hx hn
  have hcall := Met_any gv rv iv kGlobs (imgR la lb lc k) xs (n : Int) V ((hg.below hV (Nat.le_refl _)).more hV.size) ((hr.below hV (Nat.le_refl _)).more hV.size) (row_ints hi rfl) kGlobs_ok (img_rok ha hb hc hk) (ht.own hV)
  have q4 : runL kGlobs (imgR la lb lc k) xs (n : Int) = imgC la lb lc k := by
    unfold runL
    rw [q1, if_neg (by simp), img_codes ha hb hc hk]
  have q3 : runT kGlobs (imgR la lb lc k) xs (n : Int) = metS (imgC la lb lc k) (beginS kGlobs xs) n := by
    unfold runT
    rw [q1, if_neg (by simp), img_codes ha hb hc hk, Int.toNat_natCast]
  rw [q1, q2, q3, q4] at hcall
  refine hcall.mono ?_
  rintro e w' ⟨v, ov, rfl, h0, h1, h2⟩
  exact ⟨v, ov, rfl, h1, h0, h2⟩
set_option maxRecDepth 100000 in
set_option maxHeartbeats 2000000 in
theorem MachineMetSum_any (va vb vc vi : Value) (la lb lc li : List Int) (fz : Int) (w : World) (ha : IntsAt w w.heap.size va la) (hb : IntsAt w w.heap.size vb lb) (hc : IntsAt w w.heap.size vc lc) (hi : IntsAt w w.heap.size vi li)
    (hia : ∀ x ∈ la, I64 x) (hib : ∀ x ∈ lb, I64 x) (hic : ∀ x ∈ lc, I64 x) (hf : I64 fz) (ht : Tab w) :
    Calls Tryd.prog 10 #[va, vb, vc, vi, .int .i64 fz] w fun e w' => e = .returned (.bool true) ∧ Below w.heap.size w w' := by
  obtain ⟨n, hn⟩ : ∃ n : Nat, fz % 800 = n := ⟨(fz % 800).toNat, by omega⟩
  have hn8 : n < 800 := by omega
  have hx8 : (li.take 8).length ≤ 30 := by rw [List.length_take]; omega
  have HImg := Lib.hid (ImageOf_any va vb vc la lb lc 20 w ha hb hc hia hib hic (by omega))
  have HIn := Lib.hid hi
  have HRI : Hid (∀ (gv rv : Value) (W : World), GlobsAt W W.heap.size gv kGlobs → RoutsAt W W.heap.size rv (imgR la lb lc 20) → Tab W → ∀ (base : Nat) (iv : Value) (V : World), Below W.heap.size W V → V.ownsRow base 3 1 iv (li.take 8).length (intV (li.take 8)) →
    Calls Tryd.prog 14 #[.agg #[gv, rv], iv, .int .i64 (n : Int)] V fun e w' => ∃ ov, e = .returned (runV (runS (imgC la lb lc 20) (beginS kGlobs (li.take 8)) n).told ov (0, 0)) ∧
      w'.ownsRow V.heap.size 3 1 ov (runS (imgC la lb lc 20) (beginS kGlobs (li.take 8)) n).told.out.length (intV (runS (imgC la lb lc 20) (beginS kGlobs (li.take 8)) n).told.out) ∧ Below V.heap.size V w') :=
    Lib.hid fun gv rv W h1 h2 h3 base iv V hV hi => Run_img hia hib hic (by omega) h1 h2 h3 hx8 (by omega) hV hi
  have HMI : Hid (∀ (gv rv : Value) (W : World), GlobsAt W W.heap.size gv kGlobs → RoutsAt W W.heap.size rv (imgR la lb lc 20) → Tab W → ∀ (base : Nat) (iv : Value) (V : World), Below W.heap.size W V → V.ownsRow base 3 1 iv (li.take 8).length (intV (li.take 8)) →
    Calls Tryd.prog 18 #[.agg #[gv, rv], iv, .int .i64 (n : Int)] V fun e w' => ∃ v ov, e = .returned (metV (runS (imgC la lb lc 20) (beginS kGlobs (li.take 8)) n).told v ov) ∧
      w'.ownsRow V.heap.size 3 1 ov (runS (imgC la lb lc 20) (beginS kGlobs (li.take 8)) n).told.out.length (intV (runS (imgC la lb lc 20) (beginS kGlobs (li.take 8)) n).told.out) ∧
      RowsOwn w' V.heap.size v (metRows (imgC la lb lc 20) (metS (imgC la lb lc 20) (beginS kGlobs (li.take 8)) n)) ∧ Below V.heap.size V w') :=
    Lib.hid fun gv rv W h1 h2 h3 base iv V hV hi => Met_img hia hib hic (by omega) h1 h2 h3 hx8 (by omega) hV hi
  obtain ⟨_, _, hgc, hgs⟩ := img_run (n := 20) (fuel := 0) hia hib hic (by omega) hx8 (by omega)
  have hmi := met_in hgc hgs n
  have hml := met_len hgc hgs rfl n
  have hfirst := first_met (imgC la lb lc 20) (memS kGlobs) (li.take 8) n
  have hcl : ∀ k, k < 3 → 0 < ((imgC la lb lc 20).getD k []).length ∧ ((imgC la lb lc 20).getD k []).length ≤ 21 := fun k hk => by
    have key : ∀ l : List Int, 0 < (codeOf l 20 3).length ∧ (codeOf l 20 3).length ≤ 21 := fun l => by rw [codeOf_len]; omega
    match k, hk with
    | 0, _ => exact key la
    | 1, _ => exact key lb
    | 2, _ => exact key lc
    | k + 3, h => omega
  have h3 : (imgC la lb lc 20).length = 3 := rfl
  have HT := Lib.hid ht
  have HN := Lib.hid hn
  have HF := Lib.hid hf
  have hfirst' : (n = 0) = ((metS (imgC la lb lc 20) (beginS kGlobs (li.take 8)) n).count (0, 0) = 0) := hfirst
  have hst : (runS (imgC la lb lc 20) (beginS kGlobs (li.take 8)) n).told.steps = (runS (imgC la lb lc 20) (beginS kGlobs (li.take 8)) n).steps := told_steps _
  rw [← hst] at hml
  generalize (runS (imgC la lb lc 20) (beginS kGlobs (li.take 8)) n).told = X at HRI HMI hml
  have htl := metS_len (imgC la lb lc 20) (beginS kGlobs (li.take 8)) n
  generalize metS (imgC la lb lc 20) (beginS kGlobs (li.take 8)) n = tr at HMI hmi hml hfirst' htl
  obtain ⟨lenF, hlenF⟩ : ∃ f : Nat → Nat, f = fun k => ((imgC la lb lc 20).getD k []).length := ⟨_, rfl⟩
  have hrange : ∀ p ∈ tr, p.1 < 3 ∧ p.2 < lenF p.1 := fun p hp => by rw [hlenF]; exact hmi p hp
  have HRange := Lib.hid hrange
  have HTot : Hid (sumR (rowsF lenF tr) 3 = (X.steps : Int)) := Lib.hid (by rw [sum_counts tr hrange, hml])
  have HLenF : Hid (∀ k, k < 3 → 0 < lenF k ∧ lenF k ≤ 21) := Lib.hid (by rw [hlenF]; exact hcl)
  have HFirst := Lib.hid hfirst'
  have HTl := Lib.hid htl
  obtain ⟨rows, hrows⟩ : ∃ r, metRows (imgC la lb lc 20) tr = r := ⟨_, rfl⟩
  have HRl : Hid (rows.length = 3) := Lib.hid (by rw [← hrows]; unfold metRows; rw [metTo_len]; rfl)
  have HRk : Hid (∀ k, k < 3 → ∃ l, rows[k]? = some l ∧ l.length = lenF k ∧ ∀ i, i < lenF k → l[i]? = some (lineF tr k i)) := Lib.hid fun k hk => by
    refine ⟨metLine tr k ((imgC la lb lc 20).getD k []), ?_, ?_, fun i hi => ?_⟩
    · rw [← hrows]
      unfold metRows metTo
      rw [List.getElem?_map, List.getElem?_range (by rw [h3]; exact hk)]
      rfl
    · unfold metLine
      rw [List.length_map, List.length_range, hlenF]
    · unfold metLine
      rw [List.getElem?_map, List.getElem?_range (by rw [hlenF] at hi; exact hi)]
      rfl
  rw [hrows] at HMI
  obtain ⟨xs, hxs⟩ : ∃ xs, li.take 8 = xs := ⟨_, rfl⟩
  have HXS := Lib.hid hxs
  rw [hxs] at HRI HMI
  clear ha hb hc hi hia hib hic hf ht hn hx8 hxs hgc hgs hmi hml hfirst hcl h3 hfirst' hst htl hrange hlenF hrows
  go_enter Tryd.func10, Tryd.ntmps10
  go_wp2_with fail
  refine HImg.out.mono ?_
  rintro e w1 ⟨gv, rv, rfl, hgr, hb1⟩
  obtain ⟨hg, hr⟩ := hgr w1 (Turn.refl _ _)
  obtain ⟨Ag, ng, cg, hgv⟩ : ∃ A n c, gv = .slice A n c := by obtain ⟨A, c, e, _⟩ := hg; exact ⟨A, _, c, e⟩
  obtain ⟨Ar, nr, cr, hrv⟩ : ∃ A n c, rv = .slice A n c := by obtain ⟨A, c, e, _⟩ := hr; exact ⟨A, _, c, e⟩
  subst hgv
  subst hrv
  have hA2 : Below w1.heap.size w1 (w1.alloc (.cells #[.slice Ag ng cg, .slice Ar nr cr] 36)) := (Below.refl _ _).alloc (Nat.le_refl _) _
  have HG3 := Lib.hid ((hg.below hA2 (Nat.le_refl _)).more hA2.size)
  have HR3 := Lib.hid ((hr.below hA2 (Nat.le_refl _)).more hA2.size)
  have HB3 := Lib.hid (hb1.trans (hA2.mono hb1.size))
  have HK3 := Lib.hid (Blk.new w1 36 #[.slice Ag ng cg, .slice Ar nr cr])
  clear hgr hg hr hb1 hA2
  go_upto_region 2 with fail
  generalize w1.alloc (.cells #[.slice Ag ng cg, .slice Ar nr cr] 36) = W at *
  have HRun := Lib.hid (HRI.out _ _ W HG3.out HR3.out (HT.out.own HB3.out))
  have HMet := Lib.hid (HMI.out _ _ W HG3.out HR3.out (HT.out.own HB3.out))
  have HKz : Hid (w1.heap.size < W.heap.size) := Lib.hid HK3.out.lt
  generalize w1.heap.size = gi at *
  clear HRI HMI HG3 HR3 HImg
  go_wp2_with fail
  refine (Picked_any fz 800 _ (by omega) (by omega) HF.out).mono ?_
  rintro e w' ⟨rfl, rfl⟩
  rw [HN.out]
  go_upto_region 3 with fail
  have HW0 : Hid (ThrRun (pv3 (.agg #[.slice Ag ng cg, .slice Ar nr cr]) vi (.int .i64 (n : Int))) W.heap.size W xs X rows (fun _ => none) { W with drawn := W.drawn + 1 }) := Lib.hid (ThrRun.start (below_drew (Below.refl _ _)) (Nat.le_refl _))
  have HNo : Hid (∀ j ∈ slots11, (pv3 (.agg #[.slice Ag ng cg, .slice Ar nr cr]) vi (.int .i64 (n : Int))) j = none) := Lib.hid (pv3_eleven _ _ _)
  have HP : Hid ((pv3 (.agg #[.slice Ag ng cg, .slice Ar nr cr]) vi (.int .i64 (n : Int))) 0 = some (.agg #[.slice Ag ng cg, .slice Ar nr cr]) ∧ (pv3 (.agg #[.slice Ag ng cg, .slice Ar nr cr]) vi (.int .i64 (n : Int))) 1 = some (vi) ∧ (pv3 (.agg #[.slice Ag ng cg, .slice Ar nr cr]) vi (.int .i64 (n : Int))) 3 = some (.int .i64 (n : Int))) := Lib.hid ⟨rfl, rfl, rfl⟩
  generalize pv3 (.agg #[.slice Ag ng cg, .slice Ar nr cr]) vi (.int .i64 (n : Int)) = pv at *
  refine wp_region_keeps (ThrRun pv W.heap.size W xs X rows) (by kernel_rfl) (by kernel_rfl) HW0.out ?_ ?_
  · refine ⟨⟨rfl, ?_⟩, ⟨rfl, ?_⟩, ⟨rfl, ?_⟩, ⟨rfl, ?_⟩, ⟨rfl, ?_⟩, ⟨rfl, ?_⟩, ⟨rfl, ?_⟩, ⟨rfl, ?_⟩, ⟨rfl, ?_⟩, ⟨rfl, ?_⟩, ⟨rfl, ?_⟩, ⟨rfl, ?_⟩, ⟨rfl, ?_⟩, ⟨rfl, ?_⟩, trivial⟩
    all_goals
      intro σ vs w' hvs hcl hC hk hdep
      simp only [putO, Act.put, List.setIfInBounds_toArray, List.set_cons_succ, List.set_cons_zero, Nat.reduceAdd]
      have HC := Lib.hid hC
      have HD := Lib.hid hdep
      have HL := Lib.hid hcl
      have HS := Lib.hid hk
      clear hC hdep hcl hk hvs
    · have hk := HK3.out.below HC.out.low.1 HKz.out
      have c0 := hk.cell 0
      have c1 := hk.cell 1
      clear hk
      go_simp
      exact HC.out.known HP.out.1 HNo.out
    · go_simp
      exact HC.out.known HP.out.2.1 HNo.out
    · rw [HC.out.val (HD.out ⟨1, .data⟩ (by simp) rfl) HP.out.2.1]
      go_simp
      have hb0 := HB3.out.trans (HC.out.low.1.mono HB3.out.size)
      refine (Input_any vi li w' ((HIn.out.below hb0 (Nat.le_refl _)).more hb0.size)).mono ?_
      rintro e w2 ⟨u, rfl, hu, hb⟩
      rw [HXS.out] at hu
      exact ⟨u, rfl, HC.out.input HNo.out hb hu⟩
    · go_simp
      exact HC.out.known HP.out.2.2 HNo.out
    · rw [HC.out.val (HD.out ⟨0, .data⟩ (by simp) rfl) HP.out.1, HC.out.val (HD.out ⟨3, .data⟩ (by simp) rfl) HP.out.2.2]
      have hi := HC.out.isInput (HD.out ⟨2, .data⟩ (by simp) rfl)
      have HCall := Lib.hid (HMet.out _ _ w' HC.out.low.1 hi)
      clear hi
      go_simp
      refine HCall.out.mono ?_
      rintro e w2 ⟨v, ov, rfl, h1, h2, h3⟩
      have n5 := not_done HL.out HS.out (j := 5) rfl rfl
      have n6 := not_done HL.out n5 (j := 6) rfl rfl
      have n7 := not_done HL.out n5 (j := 7) rfl rfl
      exact ⟨_, rfl, HC.out.run HNo.out h3 h1 h2 n5 n6 n7 (not_done HL.out n6 (j := 11) rfl rfl) (not_done HL.out n7 (j := 12) rfl rfl)⟩
    · go_simp
      exact HC.out.copy HNo.out (HD.out ⟨4, .data⟩ (by simp) rfl)
    · obtain ⟨v, ov, e, hA, hB, hC⟩ := HC.out.isCopy HNo.out (HD.out ⟨5, .data⟩ (by simp) rfl)
      have HH := Lib.hid hA
      rw [e]
      clear e hA hB hC
      unfold metV
      go_simp
      exact HH.out
    · obtain ⟨v, ov, e, hA, hB, hC⟩ := HC.out.isCopy HNo.out (HD.out ⟨5, .data⟩ (by simp) rfl)
      have HH := Lib.hid hB
      rw [e]
      clear e hA hB hC
      unfold metV
      go_simp
      exact HH.out
    · obtain ⟨v, ov, e, hA, hB, hC⟩ := HC.out.isCopy HNo.out (HD.out ⟨5, .data⟩ (by simp) rfl)
      have HH := Lib.hid hC
      rw [e]
      clear e hA hB hC
      unfold metV
      go_simp
      exact HH.out
    · go_simp
      exact HC.out.var1 HNo.out (not_done HL.out HS.out (j := 12) rfl rfl)
    · go_simp
      exact HC.out.var2 HNo.out (not_done HL.out HS.out (j := 13) rfl rfl)
    · go_simp
      exact HC.out.keep HNo.out (HD.out ⟨6, .data⟩ (by simp) rfl)
    · obtain ⟨A, l, c, g, e1, e2, hk, h⟩ := HC.out.store1 HNo.out (HD.out ⟨9, .data⟩ (by simp) rfl) (HD.out ⟨7, .data⟩ (by simp) rfl) (HD.out ⟨4, .phase⟩ (by simp) rfl) HS.out
      rw [e1, e2]
      have H := Lib.hid h
      have f0 := hk.frozen 0
      have f1 := hk.frozen 1
      have f2 := hk.frozen 2
      have f3 := hk.frozen 3
      have d0 : w'.cell? ⟨g, 0, none⟩ = some (.int .i64 0) := hk.cell 0
      have d1 : w'.cell? ⟨g, 1, none⟩ = some (.int .i64 0) := hk.cell 1
      have d2 : w'.cell? ⟨g, 2, none⟩ = some (.slice none 0 0) := hk.cell 2
      have d3 : w'.cell? ⟨g, 3, none⟩ = some (.int .i64 0) := hk.cell 3
      clear h hk e1 e2
      unfold outV ptrV
      go_simp
      exact H.out
    · obtain ⟨g, e1, e2, hk, h⟩ := HC.out.store2 HNo.out (HD.out ⟨10, .data⟩ (by simp) rfl) (HD.out ⟨8, .data⟩ (by simp) rfl) HS.out
      rw [e1, e2]
      have H := Lib.hid h
      have f0 := hk.frozen 0
      have f1 := hk.frozen 1
      have d0 : w'.cell? ⟨g, 0, none⟩ = some (.int .i64 0) := hk.cell 0
      have d1 : w'.cell? ⟨g, 1, none⟩ = some (.int .i64 0) := hk.cell 1
      clear h hk e1 e2
      unfold faultV ptrV
      go_simp
      exact H.out
  intro σ vs w4 hC hall
  obtain ⟨ox, gx, gf, e1, e2, hkx, hkf, hgx, hgf, hox, hrw, hb4⟩ := hC.done (hall 9 (by decide)) (hall 10 (by decide)) (hall 12 (by decide)) (hall 13 (by decide)) (hall 4 (by decide)) (hall 11 (by decide))
  simp only [putO, Act.put, List.setIfInBounds_toArray, List.set_cons_succ, List.set_cons_zero, Nat.reduceAdd]
  rw [show vs 9 = ptrV gx from e1, show vs 10 = ptrV gf from e2]
  have HKx := Lib.hid hkx
  have HFx := Lib.hid hkf
  have HOx := Lib.hid hox
  have HRx := Lib.hid hrw
  have HBx := Lib.hid hb4
  generalize vs 0 = sx0 at *
  generalize vs 1 = sx1 at *
  generalize vs 2 = sx2 at *
  generalize vs 3 = sx3 at *
  generalize vs 4 = sx4 at *
  generalize vs 5 = sx5 at *
  generalize vs 6 = sx6 at *
  generalize vs 7 = sx7 at *
  generalize vs 8 = sx8 at *
  generalize vs 11 = sx11 at *
  clear hC hall e1 e2 hkx hkf hgx hgf hox hb4 hrw HP HNo HW0
  unfold ptrV
  have HK4 := Lib.hid (HK3.out.below HBx.out HKz.out)
  have HK4z : Hid (gi < w4.heap.size) := Lib.hid HK4.out.lt
  have HB4 := Lib.hid (HB3.out.trans (HBx.out.mono HB3.out.size))
  go_upto_region 4 with fail
  have HW0 : Hid (TwoRun ix3 (pv3 (.agg #[.slice Ag ng cg, .slice Ar nr cr]) vi (.int .i64 (n : Int))) w4.heap.size w4 xs X (0, 0) (fun _ => none) { w4 with drawn := w4.drawn + 1 }) := Lib.hid (TwoRun.start (below_drew (Below.refl _ _)) (Nat.le_refl _))
  have HNo : Hid (∀ j ∈ ix3.all, (pv3 (.agg #[.slice Ag ng cg, .slice Ar nr cr]) vi (.int .i64 (n : Int))) j = none) := Lib.hid (ix3_no _ _ _)
  have HP : Hid ((pv3 (.agg #[.slice Ag ng cg, .slice Ar nr cr]) vi (.int .i64 (n : Int))) 0 = some (.agg #[.slice Ag ng cg, .slice Ar nr cr]) ∧ (pv3 (.agg #[.slice Ag ng cg, .slice Ar nr cr]) vi (.int .i64 (n : Int))) 1 = some (vi) ∧ (pv3 (.agg #[.slice Ag ng cg, .slice Ar nr cr]) vi (.int .i64 (n : Int))) 3 = some (.int .i64 (n : Int))) := Lib.hid ⟨rfl, rfl, rfl⟩
  generalize pv3 (.agg #[.slice Ag ng cg, .slice Ar nr cr]) vi (.int .i64 (n : Int)) = pv at *
  refine wp_region_keeps (TwoRun ix3 pv w4.heap.size w4 xs X (0, 0)) (by kernel_rfl) (by kernel_rfl) HW0.out ?_ ?_
  · refine ⟨⟨rfl, ?_⟩, ⟨rfl, ?_⟩, ⟨rfl, ?_⟩, ⟨rfl, ?_⟩, ⟨rfl, ?_⟩, ⟨rfl, ?_⟩, ⟨rfl, ?_⟩, ⟨rfl, ?_⟩, ⟨rfl, ?_⟩, ⟨rfl, ?_⟩, ⟨rfl, ?_⟩, ⟨rfl, ?_⟩, trivial⟩
    all_goals
      intro σ vs w' hvs hcl hC hk hdep
      simp only [putO, Act.put, List.setIfInBounds_toArray, List.set_cons_succ, List.set_cons_zero, Nat.reduceAdd]
      have HC := Lib.hid hC
      have HD := Lib.hid hdep
      have HL := Lib.hid hcl
      have HS := Lib.hid hk
      clear hC hdep hcl hk hvs
    · have hk := HK4.out.below HC.out.low.1 HK4z.out
      have c0 := hk.cell 0
      have c1 := hk.cell 1
      clear hk
      go_simp
      exact HC.out.known HP.out.1 HNo.out
    · go_simp
      exact HC.out.known HP.out.2.1 HNo.out
    · rw [HC.out.val (HD.out ⟨1, .data⟩ (by simp) rfl) HP.out.2.1]
      go_simp
      have hb0 := HB4.out.trans (HC.out.low.1.mono HB4.out.size)
      refine (Input_any vi li w' ((HIn.out.below hb0 (Nat.le_refl _)).more hb0.size)).mono ?_
      rintro e w2 ⟨u, rfl, hu, hb⟩
      rw [HXS.out] at hu
      exact ⟨u, rfl, HC.out.input ix3_apart HNo.out hb hu⟩
    · go_simp
      exact HC.out.known HP.out.2.2 HNo.out
    · rw [HC.out.val (HD.out ⟨0, .data⟩ (by simp) rfl) HP.out.1, HC.out.val (HD.out ⟨3, .data⟩ (by simp) rfl) HP.out.2.2]
      have hi := HC.out.isInput (HD.out ⟨2, .data⟩ (by simp) rfl)
      have hcall := HRun.out _ _ w'   (HBx.out.trans (HC.out.low.1.mono HBx.out.size)) hi
      have HCall := Lib.hid hcall
      clear hcall hi
      go_simp
      refine HCall.out.mono ?_
      rintro e w2 ⟨ov, rfl, h1, h2⟩
      have n5 := not_done HL.out HS.out (j := 5) rfl rfl
      have n6 := not_done HL.out n5 (j := 6) rfl rfl
      exact ⟨_, rfl, HC.out.run ix3_apart HNo.out h2 h1 n5 n6 (not_done HL.out n6 (j := 10) rfl rfl)⟩
    · go_simp
      exact HC.out.copy ix3_apart HNo.out (HD.out ⟨4, .data⟩ (by simp) rfl)
    · obtain ⟨ov, e⟩ := HC.out.isCopy (HD.out ⟨5, .data⟩ (by simp) rfl)
      rw [e]
      have h := HD.out ⟨5, .data⟩ (by simp) rfl
      rw [show vs (⟨5, .data⟩ : Edge).on = vs 5 from rfl, e] at h
      have HH := Lib.hid h
      clear h e
      unfold runV
      go_simp
      exact HC.out.out1 ix3_apart HNo.out HH.out
    · obtain ⟨ov, e⟩ := HC.out.isCopy (HD.out ⟨5, .data⟩ (by simp) rfl)
      rw [e]
      clear e
      unfold runV
      go_simp
      exact HC.out.out2 ix3_apart HNo.out
    · go_simp
      exact HC.out.var1 ix3_apart HNo.out (not_done HL.out HS.out (j := 10) rfl rfl)
    · go_simp
      exact HC.out.var2 ix3_apart HNo.out (not_done HL.out HS.out (j := 11) rfl rfl)
    · obtain ⟨ov, g, ⟨A, l, c, rfl⟩, e1, e2, hk, h⟩ := HC.out.store1 ix3_apart HNo.out (HD.out ⟨8, .data⟩ (by simp) rfl) (HD.out ⟨6, .data⟩ (by simp) rfl) (HD.out ⟨4, .chain⟩ (by simp) rfl) HS.out
      rw [e1, e2]
      have H := Lib.hid h
      have f0 := hk.frozen 0
      have f1 := hk.frozen 1
      have f2 := hk.frozen 2
      have f3 := hk.frozen 3
      have d0 : w'.cell? ⟨g, 0, none⟩ = some (.int .i64 0) := hk.cell 0
      have d1 : w'.cell? ⟨g, 1, none⟩ = some (.int .i64 0) := hk.cell 1
      have d2 : w'.cell? ⟨g, 2, none⟩ = some (.slice none 0 0) := hk.cell 2
      have d3 : w'.cell? ⟨g, 3, none⟩ = some (.int .i64 0) := hk.cell 3
      clear h hk e1 e2
      unfold outV ptrV
      go_simp
      exact H.out
    · obtain ⟨g, e1, e2, hk, h⟩ := HC.out.store2 ix3_apart HNo.out (HD.out ⟨9, .data⟩ (by simp) rfl) (HD.out ⟨7, .data⟩ (by simp) rfl) HS.out
      rw [e1, e2]
      have H := Lib.hid h
      have f0 := hk.frozen 0
      have f1 := hk.frozen 1
      have d0 : w'.cell? ⟨g, 0, none⟩ = some (.int .i64 0) := hk.cell 0
      have d1 : w'.cell? ⟨g, 1, none⟩ = some (.int .i64 0) := hk.cell 1
      clear h hk e1 e2
      unfold faultV ptrV
      go_simp
      exact H.out
  intro σ vs w5 hC hall
  obtain ⟨oy, gy, gh, e1, e2, hkx, hkf, hgx, hgf, hox, hb4⟩ := hC.done (hall 8 (by decide)) (hall 9 (by decide)) (hall 10 (by decide)) (hall 11 (by decide)) (hall 4 (by decide))
  simp only [putO, Act.put, List.setIfInBounds_toArray, List.set_cons_succ, List.set_cons_zero, Nat.reduceAdd]
  rw [show vs 8 = ptrV gy from e1, show vs 9 = ptrV gh from e2]
  have HKy := Lib.hid hkx
  have HFy := Lib.hid hkf
  have HOy := Lib.hid hox
  have HBy := Lib.hid hb4
  have HGy := Lib.hid (And.intro hgx hgf)
  generalize vs 0 = sy0 at *
  generalize vs 1 = sy1 at *
  generalize vs 2 = sy2 at *
  generalize vs 3 = sy3 at *
  generalize vs 4 = sy4 at *
  generalize vs 5 = sy5 at *
  generalize vs 6 = sy6 at *
  generalize vs 7 = sy7 at *
  clear hC hall e1 e2 hkx hkf hgx hgf hox hb4 HP HNo HW0
  unfold ptrV
  have HKx5 := Lib.hid (HKx.out.below HBy.out HKx.out.lt)
  have HFx5 := Lib.hid (HFx.out.below HBy.out HFx.out.lt)
  have HOx5 := Lib.hid (row_lt HOx.out HBy.out)
  have HB5 := Lib.hid (HB4.out.trans (HBy.out.mono HB4.out.size))
  have hrows := (HRx.out.below HBy.out rfl).rows
  obtain ⟨AR, cR, hvR, hcR1, hcR2, hcR3⟩ := hrows
  have hr3 := HRl.out
  rw [hr3] at hvR hcR1
  subst hvR
  obtain ⟨bR, oR, hAR, hbR, hcell⟩ := hcR3 (by omega)
  subst hAR
  have HRow : Hid (∀ k, k < 3 → ∃ b o c, w5.cell? ⟨bR, oR + k, none⟩ = some (.slice (some ⟨b, o, none⟩) (lenF k) c) ∧ lenF k ≤ c ∧ b < w5.heap.size ∧ ∀ i, i < lenF k → w5.cell? ⟨b, o + i, none⟩ = some (.int .i64 (lineF tr k i))) := Lib.hid fun k hk => by
    obtain ⟨l, hl, hlen, hat⟩ := HRk.out k hk
    obtain ⟨r, hrc, A, c, hr, hq1, hq2, hq3⟩ := hcell k l hl
    rw [hlen] at hr hq1 hq3
    have := HLenF.out k hk
    obtain ⟨b, o, hA, hb, hc⟩ := hq3 (by omega)
    subst hA
    subst hr
    exact ⟨b, o, c, hrc, hq1, hb, fun i hi => hc i _ (hat i hi)⟩
  have hbR5 : bR < w5.heap.size := hbR
  clear hcell hcR1 hcR2 hcR3 hbR HRk HRl hr3 HKx HFx HOx HRx HBx HK3 HK4 HKz HK4z HRun HMet HB3
  obtain ⟨b00, o00, c00, hrow0, _, hb00, hcell0⟩ := HRow.out 0 (by omega)
  have hl0 := HLenF.out 0 (by omega)
  have hc0 := hcell0 0 (by omega)
  rw [Nat.add_zero] at hrow0 hc0
  obtain ⟨l0, hl0e⟩ : ∃ l, lenF 0 = l := ⟨_, rfl⟩
  rw [hl0e] at hrow0 hl0
  have hl00 : ((l0 : Int) == 0) = false := by simp; omega
  have HC00 := Lib.hid hc0
  have Hrow0 := Lib.hid hrow0
  have b0 : w5.cell? ⟨gf, 0, none⟩ = some (.int .i64 0) := HFx5.out.cell 0
  have b1 : w5.cell? ⟨gh, 0, none⟩ = some (.int .i64 0) := HFy.out.cell 0
  clear hcell0 hl0e hc0 hrow0
  go_wp2_with fail
  refine (Sure_any w5 (HT.out.own HB5.out)).mono ?_
  rintro e w6 ⟨rfl, hb6⟩
  have HB6 := Lib.hid (HB5.out.trans (hb6.mono HB5.out.size))
  have HKx6 := Lib.hid (HKx5.out.below hb6 HKx5.out.lt)
  have HKy6 := Lib.hid (HKy.out.below hb6 HKy.out.lt)
  have HIx := Lib.hid (row_ints (row_lt HOx5.out hb6) rfl)
  have HIy := Lib.hid (row_ints (row_lt HOy.out hb6) rfl)
  have r0 := (bcell hb6 hbR5).trans Hrow0.out
  have a0 : w6.cell? ⟨gx, 0, none⟩ = some (.int .i64 X.state) := HKx6.out.cell 0
  have a1 : w6.cell? ⟨gx, 1, none⟩ = some (.int .i64 X.value) := HKx6.out.cell 1
  have a2 : w6.cell? ⟨gx, 2, none⟩ = some ox := HKx6.out.cell 2
  have a3 : w6.cell? ⟨gx, 3, none⟩ = some (.int .i64 (X.steps : Int)) := HKx6.out.cell 3
  have c0 : w6.cell? ⟨gy, 0, none⟩ = some (.int .i64 X.state) := HKy6.out.cell 0
  have c1 : w6.cell? ⟨gy, 1, none⟩ = some (.int .i64 X.value) := HKy6.out.cell 1
  have c2 : w6.cell? ⟨gy, 2, none⟩ = some oy := HKy6.out.cell 2
  have c3 : w6.cell? ⟨gy, 3, none⟩ = some (.int .i64 (X.steps : Int)) := HKy6.out.cell 3
  have HW6 := Lib.hid hb6
  clear hb6 b0 b1 HKx5 HFx5 HOx5 HKy HFy HOy HBy HGy
  go_wp2_with fail
  refine (Outcomes_any X X ox oy w6 HIx.out HIy.out).mono ?_
  rintro e w7 ⟨rfl, hb7⟩
  rw [show sameB X X = true by unfold sameB; simp]
  have HB7 := Lib.hid (HB6.out.trans (hb7.mono HB6.out.size))
  have HW7 := Lib.hid (HW6.out.trans (hb7.mono HW6.out.size))
  have HKx7 := Lib.hid (HKx6.out.below hb7 HKx6.out.lt)
  clear hb7 a0 a1 a2 a3 c0 c1 c2 c3 r0 HIx HIy HKx6 HKy6
  go_wp2_with fail
  go_loopw [18, 19] (fun s i wr => ∃ k : Nat, k ≤ 3 ∧ i = .int .i64 k ∧ s = .int .i64 (sumR (rowsF lenF tr) k) ∧ wr = w7) (fun _ i _ => 3 - (intOf i).toNat)
  case atStart => exact ⟨0, Nat.zero_le _, rfl, rfl, rfl⟩
  case round =>
    obtain ⟨k, hk, rfl, rfl, rfl⟩ := hrel
    by_cases hlt : k < 3
    · obtain ⟨b, o, c, hr, hlc, hb, hcell⟩ := HRow.out k hlt
      have d0 := (bcell HW7.out hbR5).trans hr
      have hlk := HLenF.out k hlt
      have HC := Lib.hid hcell
      have hk0 : (0 : Int) ≤ (k : Int) := Int.natCast_nonneg _
      have hk1 : (k : Int) < 3 := by omega
      obtain ⟨len, hlen⟩ : ∃ l, lenF k = l := ⟨_, rfl⟩
      have HLen := Lib.hid hlen
      rw [hlen] at d0 hlc hlk HC
      clear hr hcell hlen
      go_wp2_with fail
      obtain ⟨wo, hwo⟩ : ∃ wo : World, wo = wr := ⟨_, rfl⟩
      subst hwo
      go_loopw [18, 20] (fun s q wx => ∃ j : Nat, j ≤ len ∧ q = .int .i64 j ∧ s = .int .i64 (sumR (rowsF lenF tr) k + sumR (lineF tr k) j) ∧ wx = wo) (fun _ q _ => len - (intOf q).toNat)
      case atStart => exact ⟨0, Nat.zero_le _, rfl, by show _ = Value.int .i64 (_ + 0); rw [Int.add_zero], rfl⟩
      case round =>
        obtain ⟨j, hj, rfl, rfl, rfl⟩ := hrel
        by_cases hjl : j < len
        · obtain ⟨s0, s1⟩ := sum_upto HRange.out hlt (q := j + 1) (by rw [HLen.out]; omega)
          have e1 : sumR (lineF tr k) (j + 1) = sumR (lineF tr k) j + lineF tr k j := rfl
          have cj := (bcell HW7.out hb).trans (HC.out j hjl)
          have hp := lineF_pos tr k j
          have htl := HTl.out
          rw [e1] at s0 s1
          obtain ⟨x, hx⟩ : ∃ x, lineF tr k j = x := ⟨_, rfl⟩
          obtain ⟨S, hS⟩ : ∃ s, sumR (rowsF lenF tr) k + sumR (lineF tr k) j = s := ⟨_, rfl⟩
          rw [hx] at e1 cj hp s0 s1
          have HE : Hid (sumR (rowsF lenF tr) k + sumR (lineF tr k) (j + 1) = S + x) := Lib.hid (by rw [e1, ← hS]; omega)
          rw [hS]
          have hw : IntKind.i64.wrap (S + x) = S + x := by rw [IntKind.wrap_i64]; omega
          have hneg : ¬ (x < 0) := by omega
          have hj0 : (0 : Int) ≤ (j : Int) := Int.natCast_nonneg _
          have hj1 : (j : Int) < (len : Int) := by omega
          clear e1 s0 s1 hp hx hS htl
          go_wp2_with fail
          go_round
          case rel => exact ⟨j + 1, by omega, by go_num, by rw [HE.out], trivial⟩
          case measure => simp [intOf]; omega
        · obtain rfl : len = j := by omega
          go_wp2_with fail
          go_round
          case rel => exact ⟨k + 1, by omega, by go_num, by rw [← HLen.out]; rfl, trivial⟩
          case measure => simp [intOf]; omega
    · obtain rfl : 3 = k := by omega
      rw [HTot.out]
      have a3 : wr.cell? ⟨gx, 3, none⟩ = some (.int .i64 (X.steps : Int)) := HKx7.out.cell 3
      have r0 := (bcell HW7.out hbR5).trans Hrow0.out
      have cc := (bcell HW7.out hb00).trans HC00.out
      have hbs : ((X.steps : Int) == (X.steps : Int)) = true := by simp
      have hl0p : (0 : Int) < (l0 : Int) := by omega
      have hfi := HFirst.out
      have hl : lineF tr 0 0 = ((tr.count (0, 0) : Nat) : Int) := rfl
      rw [hl] at cc
      generalize tr.count (0, 0) = ct at *
      clear hlt hl
      by_cases hn0 : n = 0
      · subst hn0
        have hct : ct = 0 := by rw [← hfi]
        subst hct
        clear hfi
        go_wp2_with fail
        go_ret
        exact ⟨rfl, HB7.out⟩
      · have hct : ct ≠ 0 := fun h => hn0 (by rw [hfi]; exact h)
        have hb1 : ((n : Int) == 0) = false := by simp; omega
        have hb2 : ((ct : Int) == 0) = false := by simp; omega
        clear hfi hn0 hct
        go_wp2_with fail
        go_ret
        exact ⟨rfl, HB7.out⟩
end Go.Proofs.YtkiaffaieniebaaDoor
