/-
  Several texts in one (SwB SwC): what each proves stands at its theorems.
  Conditions: as the theorems say.
-/
import Derived.Test.YtiknhfbkphoceaaGreatDoorSwA
namespace Go.Proofs.YtiknhfbkphoceaaGreatDoor
open Go.RowKit

theorem tmod_neg (a n : Int) (hn : 0 < n) : (a.tmod n < 0 ∧ a.tmod n + n = a % n ∧ -n < a.tmod n) ∨ (¬ a.tmod n < 0 ∧ a.tmod n = a % n) := by
  have h := @Int.tmod_eq_emod a n
  have h1 := Int.emod_nonneg a (show n ≠ 0 by omega)
  have h2 := Int.emod_lt_of_pos a hn
  split at h
  · right
    omega
  · left
    have h3 : (n.natAbs : Int) = n := by omega
    rw [h3] at h
    omega
end Go.Proofs.YtiknhfbkphoceaaGreatDoor
namespace Go.Proofs.YtiknhfbkphoceaaGreatDoor
open Go.RowKit

theorem flat_at {α : Type} {size : Nat} (C : α → List Value) (hC : ∀ x, (C x).length = size) : ∀ (l : List α) (k j : Nat) (x : α), l[k]? = some x → j < size → (l.flatMap C)[k * size + j]? = (C x)[j]?
  | [], _, _, _, h, _ => by simp at h
  | y :: l, 0, j, x, h, hj => by
    simp only [List.getElem?_cons_zero, Option.some.injEq] at h
    subst h
    rw [List.flatMap_cons, Nat.zero_mul, Nat.zero_add, List.getElem?_append_left (by rw [hC]; exact hj)]
  | y :: l, k + 1, j, x, h, hj => by
    rw [List.flatMap_cons, List.getElem?_append_right (by rw [hC, Nat.succ_mul]; omega), hC, show (k + 1) * size + j - size = k * size + j by rw [Nat.succ_mul]; omega]
    exact flat_at C hC l k j x (by simpa using h) hj
/-- A row of the call's own reads as such things. -/
theorem sl_of_row {α β : Type} {size : Nat} {P : World → Nat → List Value → α → Prop} {w : World} {base : Nat} {e : TypeId} {v : Value} (C : β → List Value) (g : β → α) (hC : ∀ x, (C x).length = size) {ys : List β} (h : w.ownsRow base e size v ys.length (ys.flatMap C)) (hl : ys.length ≤ 1000)
    (hP : ∀ (k : Nat) (y : β), ys[k]? = some y → P w w.heap.size (C y) (g y)) : SlAt size P w w.heap.size v (ys.map g) := by
  obtain ⟨A, cap, rfl⟩ := row_form h
  rcases h.2 with ⟨e1, e2⟩ | ⟨b, cap', cur, e1, _, hb, hn, hm, _⟩
  · injection e1 with e1 e3 e4
    have : ys = [] := List.eq_nil_of_length_eq_zero e2
    subst this
    subst e1; subst e4
    exact SlAt.nil _ _
  · injection e1 with e1 e3 e4
    subst e1; subst e4
    refine ⟨_, cap, by rw [List.length_map], by rw [List.length_map]; exact hn, ⟨by rw [List.length_map]; omega, by unfold maxLen at hm; omega⟩, fun _ => ⟨b, 0, rfl, (Array.getElem?_eq_some_iff.1 hb).1, fun k x hx => ?_⟩⟩
    rw [List.getElem?_map] at hx
    cases hy : ys[k]? with
    | none => rw [hy] at hx; cases hx
    | some y =>
      rw [hy] at hx
      obtain rfl : g y = x := Option.some.inj hx
      refine ⟨C y, hP k y hy, fun j u hu => ?_⟩
      have hj : j < size := by rw [← hC y]; exact (List.getElem?_eq_some_iff.1 hu).1
      rw [Nat.zero_add]
      exact row_cell h ((flat_at C hC ys k j y hy hj).trans hu)
def opdK (v : Opd) : List Value := [.bool v.reg, .int .i64 v.n]
def OwnOpds (w : World) (base : Nat) (v : Value) (vs : List Opd) : Prop := w.ownsRow base 66 2 v vs.length (vs.flatMap opdK)
def insK (p : InsU × Value) : List Value := [.int .i64 p.1.op, .int .i64 p.1.dst, .bool p.1.a.reg, .int .i64 p.1.a.n, .bool p.1.b.reg, .int .i64 p.1.b.n, .int .i64 p.1.fn, p.2]
def OwnInss (w : World) (base : Nat) (v : Value) (xs : List InsU) : Prop :=
  ∃ ys : List (InsU × Value), ys.map Prod.fst = xs ∧ w.ownsRow base 69 8 v ys.length (ys.flatMap insK) ∧ ∀ (i : Nat) (y : InsU × Value), ys[i]? = some y → OwnOpds w base y.2 y.1.args
def blkK (p : BlkU × Value × Value) : List Value := [.slice none 0 0, p.2.1, .int .i64 p.1.kind, .bool p.1.on.reg, .int .i64 p.1.on.n, p.2.2]
def OwnBlks (w0 w : World) (base : Nat) (v : Value) (bs : List BlkU) : Prop :=
  ∃ ys : List (BlkU × Value × Value), ys.map Prod.fst = bs ∧ w.ownsRow base 78 6 v ys.length (ys.flatMap blkK) ∧ ∀ (i : Nat) (y : BlkU × Value × Value), ys[i]? = some y → OwnInss w base y.2.1 y.1.list ∧ IntsAt w0 w0.heap.size y.2.2 y.1.to
section
variable {w0 w w' : World} {base H n : Nat} {e : TypeId} {size : Nat} {v v' u : Value} {xs : List Value}
theorem OwnOpds.nil (w : World) (base : Nat) : OwnOpds w base (.slice none 0 0) [] := World.ownsRow_nil _ _ _ _
theorem OwnInss.nil (w : World) (base : Nat) : OwnInss w base (.slice none 0 0) [] := ⟨[], rfl, World.ownsRow_nil _ _ _ _, fun i y h => by simp at h⟩
theorem OwnBlks.nil (w0 w : World) (base : Nat) : OwnBlks w0 w base (.slice none 0 0) [] := ⟨[], rfl, World.ownsRow_nil _ _ _ _, fun i y h => by simp at h⟩
theorem OwnOpds.below {vs : List Opd} (h : OwnOpds w base v vs) (hb : Below w.heap.size w w') : OwnOpds w' base v vs := row_lt h hb
theorem OwnInss.below {is : List InsU} (h : OwnInss w base v is) (hb : Below w.heap.size w w') : OwnInss w' base v is := by
  obtain ⟨ys, h1, h2, h3⟩ := h
  exact ⟨ys, h1, row_lt h2 hb, fun i y hy => (h3 i y hy).below hb⟩
theorem OwnBlks.below {bs : List BlkU} (h : OwnBlks w0 w base v bs) (hb : Below w.heap.size w w') : OwnBlks w0 w' base v bs := by
  obtain ⟨ys, h1, h2, h3⟩ := h
  exact ⟨ys, h1, row_lt h2 hb, fun i y hy => ⟨(h3 i y hy).1.below hb, (h3 i y hy).2⟩⟩
theorem OwnOpds.more {base' : Nat} {vs : List Opd} (h : OwnOpds w base v vs) (hb : base' ≤ base) : OwnOpds w base' v vs := row_more h hb
theorem OwnInss.more {base' : Nat} {is : List InsU} (h : OwnInss w base v is) (hb : base' ≤ base) : OwnInss w base' v is := by
  obtain ⟨ys, h1, h2, h3⟩ := h
  exact ⟨ys, h1, row_more h2 hb, fun i y hy => (h3 i y hy).more hb⟩
theorem OwnOpds.appended {base' : Nat} {zs : List Value} {m : Nat} {vs : List Opd} (h : OwnOpds w base v vs) (hu : w.ownsRow base' e size u m zs) (ha : Appended w base' e size u n xs H v' w') (he : e ≠ 66) : OwnOpds w' base v vs :=
  ha.row h (rows_apart h hu (fun e' => he e'.symm))
theorem OwnInss.appended {base' : Nat} {zs : List Value} {m : Nat} {is : List InsU} (h : OwnInss w base v is) (hu : w.ownsRow base' e size u m zs) (ha : Appended w base' e size u n xs H v' w') (he : e ≠ 66) (he2 : e ≠ 69) : OwnInss w' base v is := by
  obtain ⟨ys, h1, h2, h3⟩ := h
  exact ⟨ys, h1, ha.row h2 (rows_apart h2 hu (fun e' => he2 e'.symm)), fun i y hy => (h3 i y hy).appended hu ha he⟩
theorem snoc_at {α : Type} {l : List α} {x y : α} {i : Nat} (h : (l ++ [x])[i]? = some y) : l[i]? = some y ∨ (i = l.length ∧ y = x) := by
  rcases Nat.lt_or_ge i l.length with hi | hi
  · rw [List.getElem?_append_left hi] at h
    exact .inl h
  · rw [List.getElem?_append_right hi] at h
    have : i = l.length := by
      have := (List.getElem?_eq_some_iff.1 h).1
      simp at this
      omega
    subst this
    rw [Nat.sub_self] at h
    exact .inr ⟨rfl, (Option.some.inj h).symm⟩
theorem OwnOpds.snoc {vs : List Opd} {x : Opd} (ha : Appended w base 66 2 v (vs.length + 1) (vs.flatMap opdK ++ opdK x) H v' w') : OwnOpds w' base v' (vs ++ [x]) := by
  unfold OwnOpds
  rw [List.length_append, List.flatMap_append]
  simpa using ha.own
theorem OwnInss.snoc {ys : List (InsU × Value)} {y : InsU × Value} (h2 : w.ownsRow base 69 8 v ys.length (ys.flatMap insK)) (h3 : ∀ (i : Nat) (y : InsU × Value), ys[i]? = some y → OwnOpds w base y.2 y.1.args) (hy : OwnOpds w base y.2 y.1.args)
    (ha : Appended w base 69 8 v (ys.length + 1) (ys.flatMap insK ++ insK y) H v' w') : OwnInss w' base v' (ys.map Prod.fst ++ [y.1]) := by
  refine ⟨ys ++ [y], by simp, ?_, fun i z hz => ?_⟩
  · rw [List.length_append, List.flatMap_append]
    simpa using ha.own
  · rcases snoc_at hz with h | ⟨_, rfl⟩
    · exact (h3 i z h).appended h2 ha (by decide)
    · exact hy.appended h2 ha (by decide)
theorem OwnBlks.snoc {ys : List (BlkU × Value × Value)} {y : BlkU × Value × Value} (h2 : w.ownsRow base 78 6 v ys.length (ys.flatMap blkK)) (h3 : ∀ (i : Nat) (y : BlkU × Value × Value), ys[i]? = some y → OwnInss w base y.2.1 y.1.list ∧ IntsAt w0 w0.heap.size y.2.2 y.1.to)
    (hy : OwnInss w base y.2.1 y.1.list ∧ IntsAt w0 w0.heap.size y.2.2 y.1.to) (ha : Appended w base 78 6 v (ys.length + 1) (ys.flatMap blkK ++ blkK y) H v' w') : OwnBlks w0 w' base v' (ys.map Prod.fst ++ [y.1]) := by
  refine ⟨ys ++ [y], by simp, ?_, fun i z hz => ?_⟩
  · rw [List.length_append, List.flatMap_append]
    simpa using ha.own
  · rcases snoc_at hz with h | ⟨_, rfl⟩
    · exact ⟨(h3 i z h).1.appended h2 ha (by decide) (by decide), (h3 i z h).2⟩
    · exact ⟨hy.1.appended h2 ha (by decide) (by decide), hy.2⟩
theorem OwnOpds.at_ {vs : List Opd} (h : OwnOpds w base v vs) (hl : vs.length ≤ 1000) : OpdsAt w w.heap.size v vs := by
  have := sl_of_row (P := OpdP) opdK (fun x : Opd => x) (fun _ => rfl) h hl (fun k y _ => rfl)
  rwa [List.map_id'] at this
theorem OwnInss.at_ {is : List InsU} (h : OwnInss w base v is) (hl : is.length ≤ 1000) (ha : ∀ x ∈ is, x.args.length ≤ 1000) : InssAt w w.heap.size v is := by
  obtain ⟨ys, rfl, h2, h3⟩ := h
  refine sl_of_row (P := InsP) insK Prod.fst (fun _ => rfl) h2 (by simpa using hl) (fun k y hy => ⟨y.2, rfl, (h3 k y hy).at_ (ha _ (List.mem_map_of_mem (List.mem_of_getElem? hy)))⟩)
theorem OwnBlks.at_ {bs : List BlkU} (h : OwnBlks w0 w base v bs) (hz : Below w0.heap.size w0 w) (hl : bs.length ≤ 1000) (hls : ∀ b ∈ bs, b.list.length ≤ 1000 ∧ ∀ x ∈ b.list, x.args.length ≤ 1000) (hph : ∀ b ∈ bs, b.phis = []) : BlksAt w w.heap.size v bs := by
  obtain ⟨ys, rfl, h2, h3⟩ := h
  refine sl_of_row (P := BlkP) blkK Prod.fst (fun _ => rfl) h2 (by simpa using hl) (fun k y hy => ?_)
  have hm := List.mem_map_of_mem (f := Prod.fst) (List.mem_of_getElem? hy)
  obtain ⟨h4, h5⟩ := h3 k y hy
  refine ⟨_, _, _, rfl, ?_, h4.at_ (hls _ hm).1 (hls _ hm).2, h5.move hz.size (kept_of hz (Nat.le_refl _))⟩
  rw [hph _ hm]
  exact SlAt.nil _ _
end
section
variable {w0 w : World} {base g : Nat} {t : TypeId} {cs : Array Value} {v : Value}
theorem OwnOpds.far {vs : List Opd} (h : OwnOpds w base v vs) (hb : Blk w g t cs) (h1 : 66 ≠ t) (o : Nat) (u : Value) : OwnOpds (w.setCell ⟨g, o, none⟩ u) base v vs := row_far h hb h1 u
theorem OwnInss.far {is : List InsU} (h : OwnInss w base v is) (hb : Blk w g t cs) (h1 : 66 ≠ t) (h2 : 69 ≠ t) (o : Nat) (u : Value) : OwnInss (w.setCell ⟨g, o, none⟩ u) base v is := by
  obtain ⟨ys, a, b, c⟩ := h
  exact ⟨ys, a, row_far b hb h2 u, fun i y hy => (c i y hy).far hb h1 o u⟩
theorem OwnBlks.far {bs : List BlkU} (h : OwnBlks w0 w base v bs) (hb : Blk w g t cs) (h1 : 66 ≠ t) (h2 : 69 ≠ t) (h3 : 78 ≠ t) (o : Nat) (u : Value) : OwnBlks w0 (w.setCell ⟨g, o, none⟩ u) base v bs := by
  obtain ⟨ys, a, b, c⟩ := h
  exact ⟨ys, a, row_far b hb h3 u, fun i y hy => ⟨(c i y hy).1.far hb h1 h2 o u, (c i y hy).2⟩⟩
theorem OwnBlks.form {bs : List BlkU} (h : OwnBlks w0 w base v bs) : ∃ A c, v = .slice A bs.length c := by
  obtain ⟨ys, rfl, b, _⟩ := h
  obtain ⟨A, c, e⟩ := row_form b
  exact ⟨A, c, by rw [e, List.length_map]⟩
theorem OwnInss.form {is : List InsU} (h : OwnInss w base v is) : ∃ A c, v = .slice A is.length c := by
  obtain ⟨ys, rfl, b, _⟩ := h
  obtain ⟨A, c, e⟩ := row_form b
  exact ⟨A, c, by rw [e, List.length_map]⟩
end
theorem list_choice {β : Type} {P : Nat → β → Prop} : ∀ n, (∀ k, k < n → ∃ y, P k y) → ∃ ys : List β, ys.length = n ∧ ∀ k y, ys[k]? = some y → P k y
  | 0, _ => ⟨[], rfl, fun k y h => by simp at h⟩
  | n + 1, h => by
    obtain ⟨ys, h1, h2⟩ := list_choice n (fun k hk => h k (by omega))
    obtain ⟨y, hy⟩ := h n (by omega)
    refine ⟨ys ++ [y], by simp [h1], fun k z hz => ?_⟩
    rcases snoc_at hz with h3 | ⟨rfl, rfl⟩
    · exact h2 k z h3
    · rw [h1]; exact hy
/-- A function as it lies in memory. -/
def funK (y : FunU × Value) : List Value := [.string y.1.name, .int .i64 y.1.params, .int .i64 y.1.regs, y.2]
theorem fun_set : ∀ (ys : List (FunU × Value)) (k : Nat) (y : FunU × Value), k < ys.length →
    ((((ys.flatMap funK).set (k * 4) (.string y.1.name)).set (k * 4 + 1) (.int .i64 y.1.params)).set (k * 4 + 2) (.int .i64 y.1.regs)).set (k * 4 + 3) y.2 = (ys.set k y).flatMap funK
  | [], _, _, h => absurd h (Nat.not_lt_zero _)
  | x :: ys, 0, y, _ => by simp [funK]
  | x :: ys, k + 1, y, h => by
    have ih := fun_set ys k y (by simpa using h)
    have hl : (funK x).length = 4 := rfl
    rw [List.flatMap_cons, List.set_cons_succ, List.flatMap_cons, ← ih]
    rw [List.set_append_right _ _ (by rw [hl]; omega), List.set_append_right _ _ (by rw [hl]; omega), List.set_append_right _ _ (by rw [hl]; omega), List.set_append_right _ _ (by rw [hl]; omega), hl]
    rw [show (k + 1) * 4 - 4 = k * 4 by omega, show (k + 1) * 4 + 1 - 4 = k * 4 + 1 by omega, show (k + 1) * 4 + 2 - 4 = k * 4 + 2 by omega, show (k + 1) * 4 + 3 - 4 = k * 4 + 3 by omega]
/-- A unit's functions, as they lie in memory. -/
theorem funs_cells {w : World} {B b off : Nat} {l c : Nat} {fs : List FunU} (h : FunsAt w B (.slice (some ⟨b, off, none⟩) l c) fs) : ∃ ys : List (FunU × Value), ys.map Prod.fst = fs ∧ ys.length = l ∧ (∀ j u, (ys.flatMap funK)[j]? = some u → w.cell? ⟨b, off + j, none⟩ = some u) ∧
    (∀ u ∈ ys.flatMap funK, u.oneCell' = true) ∧ ∀ (k : Nat) (y : FunU × Value), ys[k]? = some y → BlksAt w B y.2 y.1.blocks := by
  have hl := SlAt.len h
  obtain ⟨ys, h1, h2⟩ := list_choice (P := fun k (y : FunU × Value) => fs[k]? = some y.1 ∧ w.cell? ⟨b, off + k * 4, none⟩ = some (.string y.1.name) ∧ w.cell? ⟨b, off + k * 4 + 1, none⟩ = some (.int .i64 y.1.params) ∧ w.cell? ⟨b, off + k * 4 + 2, none⟩ = some (.int .i64 y.1.regs) ∧ w.cell? ⟨b, off + k * 4 + 3, none⟩ = some y.2 ∧ (∃ A n c, y.2 = .slice A n c) ∧ BlksAt w B y.2 y.1.blocks) l (fun k hk => by
    obtain ⟨b', off', f, bA, bc, e, _, hf, c0, c1, c2, c3, hb⟩ := FunsAt.one h hk
    injection e with e
    injection e with e1 e2
    subst e1; subst e2
    exact ⟨(f, .slice bA f.blocks.length bc), hf, c0, c1, c2, c3, ⟨_, _, _, rfl⟩, hb⟩)
  refine ⟨ys, ?_, h1, fun j u hu => ?_, fun u hu => ?_, fun k y hy => (h2 k y hy).2.2.2.2.2.2⟩
  · apply List.ext_getElem?
    intro i
    rw [List.getElem?_map]
    rcases Nat.lt_or_ge i l with hi | hi
    · obtain ⟨y, hy⟩ : ∃ y, ys[i]? = some y := ⟨_, List.getElem?_eq_getElem (by omega)⟩
      rw [hy, (h2 i y hy).1]
      rfl
    · rw [List.getElem?_eq_none (by omega), List.getElem?_eq_none (by omega)]
      rfl
  · have hj : j < 4 * l := by
      have := (List.getElem?_eq_some_iff.1 hu).1
      rw [List.length_flatMap, show (ys.map fun x => (funK x).length) = ys.map fun _ => 4 from rfl] at this
      simp only [List.map_const', List.sum_replicate_nat, h1] at this
      omega
    obtain ⟨y, hy⟩ : ∃ y, ys[j / 4]? = some y := ⟨_, List.getElem?_eq_getElem (by omega)⟩
    have hf := flat_at (size := 4) funK (fun _ => rfl) ys (j / 4) (j % 4) y hy (by omega)
    rw [show j / 4 * 4 + j % 4 = j by omega] at hf
    rw [hf] at hu
    obtain ⟨_, c0, c1, c2, c3, _⟩ := h2 _ y hy
    have hr : j % 4 = 0 ∨ j % 4 = 1 ∨ j % 4 = 2 ∨ j % 4 = 3 := by omega
    rcases hr with e | e | e | e
    · rw [e] at hu
      rw [show off + j = off + j / 4 * 4 by omega, c0]
      exact hu
    · rw [e] at hu
      rw [show off + j = off + j / 4 * 4 + 1 by omega, c1]
      exact hu
    · rw [e] at hu
      rw [show off + j = off + j / 4 * 4 + 2 by omega, c2]
      exact hu
    · rw [e] at hu
      rw [show off + j = off + j / 4 * 4 + 3 by omega, c3]
      exact hu
  · obtain ⟨y, hy, hu⟩ := List.mem_flatMap.1 hu
    obtain ⟨k, hk⟩ := List.mem_iff_getElem?.1 hy
    obtain ⟨_, _, _, _, _, ⟨A, n, c, e⟩, _⟩ := h2 k y hk
    unfold funK at hu
    rw [e] at hu
    simp only [List.mem_cons, List.not_mem_nil, or_false] at hu
    rcases hu with rfl | rfl | rfl | rfl <;> rfl
theorem swF_ok {p q : Int} (hp : 0 ≤ p ∧ p ≤ 1000) (hq : 0 ≤ q ∧ q ≤ 1000) {f : FunU} (h : f.ok) : (swF p q f).ok := by
  have hr : ∀ r, I64 r → I64 (swR p q r) := fun r hr => by
    unfold swR
    split
    · exact ⟨by omega, by omega⟩
    · split
      · exact ⟨by omega, by omega⟩
      · exact hr
  have hv : ∀ v : Opd, v.ok → (swV p q v).ok := fun v h => by
    unfold swV
    split
    · exact ⟨hr _ h.n⟩
    · exact h
  refine ⟨h.name, h.params, h.regs, fun b hb => ?_⟩
  obtain ⟨b0, hb0, rfl⟩ := List.mem_map.1 hb
  have h0 := h.blocks b0 hb0
  refine ⟨fun x hx => (by cases hx), fun x hx => ?_, h0.kind, hv _ h0.on, h0.to⟩
  obtain ⟨x0, hx0, rfl⟩ := List.mem_map.1 hx
  have h1 := h0.list x0 hx0
  refine ⟨h1.op, hr _ h1.dst, hv _ h1.a, hv _ h1.b, h1.fn, fun v hvm => ?_⟩
  obtain ⟨v0, hv0, rfl⟩ := List.mem_map.1 hvm
  exact hv _ (h1.args v0 hv0)
end Go.Proofs.YtiknhfbkphoceaaGreatDoor
