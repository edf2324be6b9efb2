/-
  Stable sorting, in plain terms: exchanges, rotations, insertions, merges in place, and what they leave in order.
  Conditions: as the theorems say.
-/
import Derived.Test.YtiknhfbkphoceaaGreatDoorCoB
namespace Go.Proofs.YtiknhfbkphoceaaGreatDoor

/-- Heavier ones first; of the same weight those with the smaller number first. -/
def ltW (w : Int → Int) (x y : Int) : Prop := w y < w x ∨ (w x = w y ∧ x < y)
theorem ltW_trans {w : Int → Int} {x y z : Int} (h : ltW w x y) (k : ltW w y z) : ltW w x z := by
  unfold ltW at *
  omega
/-- A stretch of a list is in order. -/
def Seg (R : Int → Int → Prop) (l : List Int) (a b : Nat) : Prop := ∀ (i j : Nat) (x y : Int), a ≤ i → i < j → j < b → l[i]? = some x → l[j]? = some y → R x y
/-- Each of one stretch is below each of another. -/
def Cross (R : Int → Int → Prop) (l : List Int) (a m m' b : Nat) : Prop := ∀ (i j : Nat) (x y : Int), a ≤ i → i < m → m' ≤ j → j < b → l[i]? = some x → l[j]? = some y → R x y
/-- Just a stretch has changed, and within itself. -/
def Moved (l l' : List Int) (a b : Nat) : Prop := (∀ i, i < a ∨ b ≤ i → l'[i]? = l[i]?) ∧ ∀ i, a ≤ i → i < b → ∃ j, a ≤ j ∧ j < b ∧ l'[i]? = l[j]?
theorem Moved.refl (l : List Int) (a b : Nat) : Moved l l a b := ⟨fun _ _ => rfl, fun i h1 h2 => ⟨i, h1, h2, rfl⟩⟩
theorem Moved.trans {l l' l'' : List Int} {a b : Nat} (h : Moved l l' a b) (k : Moved l' l'' a b) : Moved l l'' a b :=
  ⟨fun i hi => (k.1 i hi).trans (h.1 i hi), fun i h1 h2 => by
    obtain ⟨j, h3, h4, h5⟩ := k.2 i h1 h2
    obtain ⟨q, h6, h7, h8⟩ := h.2 j h3 h4
    exact ⟨q, h6, h7, h5.trans h8⟩⟩
theorem Moved.wider {l l' : List Int} {a b a' b' : Nat} (h : Moved l l' a b) (ha : a' ≤ a) (hb : b ≤ b') : Moved l l' a' b' :=
  ⟨fun i hi => h.1 i (by omega), fun i h1 h2 => by
    by_cases h3 : a ≤ i ∧ i < b
    · obtain ⟨j, h4, h5, h6⟩ := h.2 i h3.1 h3.2
      exact ⟨j, by omega, by omega, h6⟩
    · exact ⟨i, h1, h2, h.1 i (by omega)⟩⟩
theorem Seg.same {R : Int → Int → Prop} {l l' : List Int} {a b : Nat} (h : Seg R l a b) (e : ∀ i, a ≤ i → i < b → l'[i]? = l[i]?) : Seg R l' a b := fun i j x y h1 h2 h3 hx hy =>
  h i j x y h1 h2 h3 ((e i h1 (by omega)).symm.trans hx) ((e j (by omega) h3).symm.trans hy)
theorem Cross.moved {R : Int → Int → Prop} {l l' : List Int} {a m m' b : Nat} (h : Cross R l a m m' b) (hl : ∀ i, a ≤ i → i < m → ∃ j, a ≤ j ∧ j < m ∧ l'[i]? = l[j]?) (hr : ∀ i, m' ≤ i → i < b → ∃ j, m' ≤ j ∧ j < b ∧ l'[i]? = l[j]?) : Cross R l' a m m' b := fun i j x y h1 h2 h3 h4 hx hy => by
  obtain ⟨i', e1, e2, e3⟩ := hl i h1 h2
  obtain ⟨j', e4, e5, e6⟩ := hr j h3 h4
  exact h i' j' x y e1 e2 e4 e5 (e3.symm.trans hx) (e6.symm.trans hy)
theorem Seg.join {R : Int → Int → Prop} {l : List Int} {a m b : Nat} (h1 : Seg R l a m) (h2 : Seg R l m b) (h3 : Cross R l a m m b) : Seg R l a b := fun i j x y hi hij hj hx hy => by
  by_cases hm : j < m
  · exact h1 i j x y hi hij hm hx hy
  · by_cases hm2 : m ≤ i
    · exact h2 i j x y hm2 hij hj hx hy
    · exact h3 i j x y hi (by omega) (by omega) hj hx hy
theorem Seg.part {R : Int → Int → Prop} {l : List Int} {a b a' b' : Nat} (h : Seg R l a b) (ha : a ≤ a') (hb : b' ≤ b) : Seg R l a' b' := fun i j x y h1 h2 h3 => h i j x y (by omega) h2 (by omega)
theorem Cross.part {R : Int → Int → Prop} {l : List Int} {a m m' b a' n n' b' : Nat} (h : Cross R l a m m' b) (h1 : a ≤ a') (h2 : n ≤ m) (h3 : m' ≤ n') (h4 : b' ≤ b) : Cross R l a' n n' b' := fun i j x y e1 e2 e3 e4 => h i j x y (by omega) (by omega) (by omega) (by omega)
/-- A place of the list behind an exchange of two stretches of the same length. -/
def swapIdx (a b k i : Nat) : Nat := if a ≤ i ∧ i < a + k then i - a + b else if b ≤ i ∧ i < b + k then i - b + a else i
theorem swap_step {ys xs : List Int} {a b q : Nat} (hd : a + q < b) (h : ∀ i, ys[i]? = xs[swapIdx a b q i]?) {x y : Int} (hx : ys[a + q]? = some x) (hy : ys[b + q]? = some y) :
    ∀ i, ((ys.set (a + q) y).set (b + q) x)[i]? = xs[swapIdx a b (q + 1) i]? := by
  intro i
  have ha := (List.getElem?_eq_some_iff.1 hx).1
  have hb := (List.getElem?_eq_some_iff.1 hy).1
  have key : ∀ p q : Nat, p = q → xs[p]? = xs[q]? := fun p q e => by rw [e]
  have ex : xs[a + q]? = some x := by
    rw [← hx, h]
    exact key _ _ (by unfold swapIdx; (repeat' split) <;> omega)
  have ey : xs[b + q]? = some y := by
    rw [← hy, h]
    exact key _ _ (by unfold swapIdx; (repeat' split) <;> omega)
  rw [List.getElem?_set, List.getElem?_set, List.length_set]
  by_cases h1 : b + q = i
  · subst h1
    rw [if_pos rfl, if_pos hb, ← ex]
    exact key _ _ (by unfold swapIdx; (repeat' split) <;> omega)
  · rw [if_neg h1]
    by_cases h2 : a + q = i
    · subst h2
      rw [if_pos rfl, if_pos ha, ← ey]
      exact key _ _ (by unfold swapIdx; (repeat' split) <;> omega)
    · rw [if_neg h2, h]
      exact key _ _ (by unfold swapIdx; (repeat' split) <;> omega)
/-- .. behind a rotation: the stretch from q to r comes ahead of that from p to q. -/
def rotIdx (p q r i : Nat) : Nat := if i < p then i else if i < p + (r - q) then i - p + q else if i < r then i - (r - q) else i
theorem rot_left {m i j : Nat} (hji : j < i) (hi : i ≤ m) (z : Nat) : rotIdx (m - i) m (m + j) z = swapIdx (m - i) m j (rotIdx (m - i + j) m (m + j) z) := by
  unfold rotIdx swapIdx
  (repeat' split) <;> omega
theorem rot_right {m i j : Nat} (hij : i < j) (hi : i ≤ m) (z : Nat) : rotIdx (m - i) m (m + j) z = swapIdx (m - i) (m + j - i) i (rotIdx (m - i) m (m + j - i) z) := by
  unfold rotIdx swapIdx
  (repeat' split) <;> omega
theorem rot_end {m i : Nat} (hi : i ≤ m) (z : Nat) : rotIdx (m - i) m (m + i) z = swapIdx (m - i) m i z := by
  unfold rotIdx swapIdx
  (repeat' split) <;> omega
/-- A first element is put behind those that come ahead of it. -/
theorem one_merge {w : Int → Int} {ys zs : List Int} {a i b : Nat} (hai : a + 1 ≤ i) (hib : i ≤ b) (hb : b ≤ ys.length) (hs : Seg (ltW w) ys (a + 1) b) (hc : Cross (· < ·) ys a (a + 1) (a + 1) b)
    (h1 : i = a + 1 ∨ ∀ x y, ys[i - 1]? = some y → ys[a]? = some x → w x < w y) (h2 : i = b ∨ ∀ x y, ys[i]? = some y → ys[a]? = some x → ¬ w x < w y)
    (hz : ∀ t, zs[t]? = ys[if a ≤ t ∧ t + 1 < i then t + 1 else if t + 1 = i then a else t]?) : Seg (ltW w) zs a b ∧ Moved ys zs a b := by
  obtain ⟨xa, hxa⟩ : ∃ x, ys[a]? = some x := ⟨_, List.getElem?_eq_getElem (by omega)⟩
  refine ⟨fun p q x y hp hpq hq hx hy => ?_, fun t ht => ?_, fun t ht1 ht2 => ?_⟩
  · rw [hz] at hx hy
    have low : ∀ u v, a + 1 ≤ u → u < i → ys[u]? = some v → ltW w v xa := fun u v hu1 hu2 hv => by
      rcases h1 with h1 | h1
      · omega
      · obtain ⟨e, he⟩ : ∃ e, ys[i - 1]? = some e := ⟨_, List.getElem?_eq_getElem (by omega)⟩
        have h3 : ltW w e xa := .inl (h1 xa e he hxa)
        by_cases hu : u = i - 1
        · subst hu
          rw [he] at hv
          cases hv
          exact h3
        · exact ltW_trans (hs u (i - 1) v e hu1 (by omega) (by omega) hv he) h3
    have high : ∀ u v, i ≤ u → u < b → ys[u]? = some v → ltW w xa v := fun u v hu1 hu2 hv => by
      rcases h2 with h2 | h2
      · omega
      · obtain ⟨e, he⟩ : ∃ e, ys[i]? = some e := ⟨_, List.getElem?_eq_getElem (by omega)⟩
        have h3 := h2 xa e he hxa
        have h4 : xa < e := hc a i xa e (Nat.le_refl _) (by omega) hai (by omega) hxa he
        have h5 : ltW w xa e := by unfold ltW; omega
        by_cases hu : u = i
        · subst hu
          rw [he] at hv
          cases hv
          exact h5
        · exact ltW_trans h5 (hs i u e v hai (by omega) hu2 he hv)
    by_cases p1 : p + 1 < i
    · rw [if_pos (by omega)] at hx
      by_cases q1 : q + 1 < i
      · rw [if_pos (by omega)] at hy
        exact hs (p + 1) (q + 1) x y (by omega) (by omega) (by omega) hx hy
      · rw [if_neg (by omega)] at hy
        by_cases q2 : q + 1 = i
        · rw [if_pos q2, hxa] at hy
          cases hy
          exact low (p + 1) x (by omega) (by omega) hx
        · rw [if_neg q2] at hy
          exact hs (p + 1) q x y (by omega) (by omega) hq hx hy
    · rw [if_neg (by omega)] at hx
      by_cases p2 : p + 1 = i
      · rw [if_pos p2, hxa] at hx
        cases hx
        rw [if_neg (by omega), if_neg (by omega)] at hy
        exact high q y (by omega) hq hy
      · rw [if_neg p2] at hx
        rw [if_neg (by omega), if_neg (by omega)] at hy
        exact hs p q x y (by omega) hpq hq hx hy
  · rw [hz, if_neg (by omega), if_neg (by omega)]
  · rw [hz]
    split
    · exact ⟨t + 1, by omega, by omega, rfl⟩
    · split
      · exact ⟨a, by omega, by omega, rfl⟩
      · exact ⟨t, ht1, ht2, rfl⟩
/-- A last element is put ahead of those that come behind it. -/
theorem two_merge {w : Int → Int} {ys zs : List Int} {a i m : Nat} (hai : a ≤ i) (him : i ≤ m) (hm : m < ys.length) (hs : Seg (ltW w) ys a m) (hc : Cross (· < ·) ys a m m (m + 1))
    (h1 : i = a ∨ ∀ x y, ys[i - 1]? = some x → ys[m]? = some y → ¬ w x < w y) (h2 : i = m ∨ ∀ x y, ys[i]? = some x → ys[m]? = some y → w x < w y)
    (hz : ∀ t, zs[t]? = ys[if t = i then m else if i < t ∧ t ≤ m then t - 1 else t]?) : Seg (ltW w) zs a (m + 1) ∧ Moved ys zs a (m + 1) := by
  obtain ⟨ym, hym⟩ : ∃ x, ys[m]? = some x := ⟨_, List.getElem?_eq_getElem hm⟩
  refine ⟨fun p q x y hp hpq hq hx hy => ?_, fun t ht => ?_, fun t ht1 ht2 => ?_⟩
  · rw [hz] at hx hy
    have low : ∀ u v, a ≤ u → u < i → ys[u]? = some v → ltW w v ym := fun u v hu1 hu2 hv => by
      rcases h1 with h1 | h1
      · omega
      · obtain ⟨e, he⟩ : ∃ e, ys[i - 1]? = some e := ⟨_, List.getElem?_eq_getElem (by omega)⟩
        have h3 := h1 e ym he hym
        have h4 : e < ym := hc (i - 1) m e ym (by omega) (by omega) (Nat.le_refl _) (by omega) he hym
        have h5 : ltW w e ym := by unfold ltW; omega
        by_cases hu : u = i - 1
        · subst hu
          rw [he] at hv
          cases hv
          exact h5
        · exact ltW_trans (hs u (i - 1) v e hu1 (by omega) (by omega) hv he) h5
    have high : ∀ u v, i ≤ u → u < m → ys[u]? = some v → ltW w ym v := fun u v hu1 hu2 hv => by
      rcases h2 with h2 | h2
      · omega
      · obtain ⟨e, he⟩ : ∃ e, ys[i]? = some e := ⟨_, List.getElem?_eq_getElem (by omega)⟩
        have h3 : ltW w ym e := .inl (h2 e ym he hym)
        by_cases hu : u = i
        · subst hu
          rw [he] at hv
          cases hv
          exact h3
        · exact ltW_trans h3 (hs i u e v hai (by omega) hu2 he hv)
    by_cases p1 : p < i
    · rw [if_neg (by omega), if_neg (by omega)] at hx
      by_cases q1 : q < i
      · rw [if_neg (by omega), if_neg (by omega)] at hy
        exact hs p q x y hp hpq (by omega) hx hy
      · by_cases q2 : q = i
        · rw [if_pos q2, hym] at hy
          cases hy
          exact low p x hp p1 hx
        · rw [if_neg q2, if_pos (by omega)] at hy
          exact hs p (q - 1) x y hp (by omega) (by omega) hx hy
    · by_cases p2 : p = i
      · rw [if_pos p2, hym] at hx
        cases hx
        rw [if_neg (by omega), if_pos (by omega)] at hy
        exact high (q - 1) y (by omega) (by omega) hy
      · rw [if_neg p2, if_pos (by omega)] at hx
        rw [if_neg (by omega), if_pos (by omega)] at hy
        exact hs (p - 1) (q - 1) x y (by omega) (by omega) (by omega) hx hy
  · rw [hz, if_neg (by omega), if_neg (by omega)]
  · rw [hz]
    split
    · exact ⟨m, by omega, by omega, rfl⟩
    · split
      · exact ⟨t - 1, by omega, by omega, rfl⟩
      · exact ⟨t, ht1, ht2, rfl⟩
/-- What a rotation leaves: two stretches to be merged, all of the first below all of the second. -/
theorem rot_parts {w : Int → Int} {ys zs : List Int} {a m b st en md s0 r0 : Nat} (hl : b ≤ ys.length) (h0 : a ≤ st ∧ st ≤ m ∧ m ≤ en ∧ en ≤ b ∧ st ≤ md ∧ md ≤ en ∧ en + st = md + m ∧ s0 ≤ st ∧ st ≤ r0) (hs1 : Seg (ltW w) ys a m) (hs2 : Seg (ltW w) ys m b) (hc : Cross (· < ·) ys a m m b)
    (hlo : s0 = a ∨ s0 + b = md + m) (hhi : r0 = m ∨ r0 = md)
    (h1 : st = s0 ∨ ∀ x y, ys[st - 1]? = some x → ys[en]? = some y → ¬ w x < w y) (h2 : st = r0 ∨ ∀ x y, ys[st]? = some x → ys[en - 1]? = some y → w x < w y)
    (hz : ∀ t, zs[t]? = ys[rotIdx st m en t]?) :
    Moved ys zs a b ∧ (Seg (ltW w) zs a st ∧ Seg (ltW w) zs st md ∧ Cross (· < ·) zs a st st md) ∧ (Seg (ltW w) zs md en ∧ Seg (ltW w) zs en b ∧ Cross (· < ·) zs md en en b) ∧ Cross (ltW w) zs a md md b := by
  obtain ⟨g1, g2, g3, g4, g5, g6, g7, g8, g9⟩ := h0
  have e1 : ∀ t, t < st → zs[t]? = ys[t]? := fun t ht => by rw [hz]; unfold rotIdx; rw [if_pos ht]
  have e2 : ∀ t, st ≤ t → t < md → zs[t]? = ys[t - st + m]? := fun t h h' => by rw [hz]; unfold rotIdx; rw [if_neg (by omega), if_pos (by omega)]
  have e3 : ∀ t, md ≤ t → t < en → zs[t]? = ys[t - (en - m)]? := fun t h h' => by rw [hz]; unfold rotIdx; rw [if_neg (by omega), if_neg (by omega), if_pos h']
  have e4 : ∀ t, en ≤ t → zs[t]? = ys[t]? := fun t h => by rw [hz]; unfold rotIdx; rw [if_neg (by omega), if_neg (by omega), if_neg (by omega)]
  have lh : ∀ u v x y, a ≤ u → u < st → en ≤ v → v < b → ys[u]? = some x → ys[v]? = some y → ltW w x y := fun u v x y hu1 hu2 hv1 hv2 hx hy => by
    rcases h1 with h1 | h1
    · omega
    · obtain ⟨e, he⟩ : ∃ e, ys[st - 1]? = some e := ⟨_, List.getElem?_eq_getElem (by omega)⟩
      obtain ⟨k, hk⟩ : ∃ k, ys[en]? = some k := ⟨_, List.getElem?_eq_getElem (by omega)⟩
      have h3 := h1 e k he hk
      have h4 : e < k := hc (st - 1) en e k (by omega) (by omega) (by omega) (by omega) he hk
      have h5 : ltW w e k := by unfold ltW; omega
      have h6 : ltW w x k := by
        by_cases hu : u = st - 1
        · subst hu; rw [he] at hx; cases hx; exact h5
        · exact ltW_trans (hs1 u (st - 1) x e hu1 (by omega) (by omega) hx he) h5
      by_cases hv : v = en
      · subst hv; rw [hk] at hy; cases hy; exact h6
      · exact ltW_trans h6 (hs2 en v k y (by omega) (by omega) hv2 hk hy)
  have hl2 : ∀ u v x y, st ≤ u → u < m → m ≤ v → v < en → ys[u]? = some x → ys[v]? = some y → ltW w y x := fun u v x y hu1 hu2 hv1 hv2 hx hy => by
    rcases h2 with h2 | h2
    · omega
    · obtain ⟨e, he⟩ : ∃ e, ys[st]? = some e := ⟨_, List.getElem?_eq_getElem (by omega)⟩
      obtain ⟨k, hk⟩ : ∃ k, ys[en - 1]? = some k := ⟨_, List.getElem?_eq_getElem (by omega)⟩
      have h5 : ltW w k e := .inl (h2 e k he hk)
      have h6 : ltW w y e := by
        by_cases hv : v = en - 1
        · subst hv; rw [hk] at hy; cases hy; exact h5
        · exact ltW_trans (hs2 v (en - 1) y k hv1 (by omega) (by omega) hy hk) h5
      by_cases hu : u = st
      · subst hu; rw [he] at hx; cases hx; exact h6
      · exact ltW_trans h6 (hs1 st u e x (by omega) (by omega) hu2 he hx)
  refine ⟨⟨fun t ht => ?_, fun t ht1 ht2 => ?_⟩, ⟨?_, ?_, ?_⟩, ⟨?_, ?_, ?_⟩, ?_⟩
  · rcases ht with ht | ht
    · exact e1 t (by omega)
    · exact e4 t (by omega)
  · by_cases c1 : t < st
    · exact ⟨t, ht1, ht2, e1 t c1⟩
    · by_cases c2 : t < md
      · exact ⟨t - st + m, by omega, by omega, e2 t (by omega) c2⟩
      · by_cases c3 : t < en
        · exact ⟨t - (en - m), by omega, by omega, e3 t (by omega) c3⟩
        · exact ⟨t, ht1, ht2, e4 t (by omega)⟩
  · intro p q x y hp hpq hq hx hy
    rw [e1 p (by omega)] at hx
    rw [e1 q hq] at hy
    exact hs1 p q x y hp hpq (by omega) hx hy
  · intro p q x y hp hpq hq hx hy
    rw [e2 p hp (by omega)] at hx
    rw [e2 q (by omega) hq] at hy
    exact hs2 _ _ x y (by omega) (by omega) (by omega) hx hy
  · intro p q x y hp hp2 hq hq2 hx hy
    rw [e1 p hp2] at hx
    rw [e2 q hq hq2] at hy
    exact hc _ _ x y hp (by omega) (by omega) (by omega) hx hy
  · intro p q x y hp hpq hq hx hy
    rw [e3 p hp (by omega)] at hx
    rw [e3 q (by omega) hq] at hy
    exact hs1 _ _ x y (by omega) (by omega) (by omega) hx hy
  · intro p q x y hp hpq hq hx hy
    rw [e4 p hp] at hx
    rw [e4 q (by omega)] at hy
    exact hs2 _ _ x y (by omega) hpq hq hx hy
  · intro p q x y hp hp2 hq hq2 hx hy
    rw [e3 p hp hp2] at hx
    rw [e4 q hq] at hy
    exact hc _ _ x y (by omega) (by omega) (by omega) hq2 hx hy
  · intro p q x y hp hp2 hq hq2 hx hy
    by_cases c1 : p < st
    · rw [e1 p c1] at hx
      by_cases c2 : q < en
      · rw [e3 q hq c2] at hy
        exact hs1 _ _ x y hp (by omega) (by omega) hx hy
      · rw [e4 q (by omega)] at hy
        exact lh _ _ x y hp c1 (by omega) hq2 hx hy
    · rw [e2 p (by omega) hp2] at hx
      by_cases c2 : q < en
      · rw [e3 q hq c2] at hy
        exact hl2 _ _ y x (by omega) (by omega) (by omega) (by omega) hy hx
      · rw [e4 q (by omega)] at hy
        exact hs2 _ _ x y (by omega) (by omega) hq2 hx hy
/-- Both merged, the whole is in order. -/
theorem merge_all {w : Int → Int} {l1 l2 l3 : List Int} {a m b : Nat} (hc : Cross (ltW w) l1 a m m b) (h1 : Moved l1 l2 a m) (hs1 : Seg (ltW w) l2 a m) (h2 : Moved l2 l3 m b) (hs2 : Seg (ltW w) l3 m b) : Seg (ltW w) l3 a b := by
  refine Seg.join (hs1.same fun i _ h => h2.1 i (.inl h)) hs2 ?_
  refine hc.moved (fun i hi hi2 => ?_) (fun i hi hi2 => ?_)
  · obtain ⟨j, e1, e2, e3⟩ := h1.2 i hi hi2
    exact ⟨j, e1, e2, (h2.1 i (.inl hi2)).trans e3⟩
  · obtain ⟨j, e1, e2, e3⟩ := h2.2 i hi hi2
    exact ⟨j, e1, e2, e3.trans (h1.1 j (.inr e1))⟩
/-- One more is put in its place. -/
theorem ins_step {w : Int → Int} {ys zs : List Int} {a j i : Nat} (haj : a ≤ j) (hji : j ≤ i) (hi : i < ys.length) (hs : Seg (ltW w) ys a i) (hc : Cross (· < ·) ys a i i (i + 1))
    (h1 : j = a ∨ ∀ x y, ys[j - 1]? = some x → ys[i]? = some y → ¬ w x < w y) (h2 : j = i ∨ ∀ x y, ys[j]? = some x → ys[i]? = some y → w x < w y)
    (hz : ∀ t, zs[t]? = ys[if t = j then i else if j < t ∧ t ≤ i then t - 1 else t]?) : Seg (ltW w) zs a (i + 1) ∧ Moved ys zs a (i + 1) := two_merge haj hji hi hs hc h1 h2 hz
/-- While stretches of twenty are put in order. -/
structure InsInv (w : Int → Int) (n a : Nat) (ys : List Int) : Prop where
  low : ∀ k, k % 20 = 0 → Cross (· < ·) ys 0 k k n
  done : ∀ k, k % 20 = 0 → k < a → Seg (ltW w) ys k (min (k + 20) n)
  rest : Seg (· < ·) ys a n
theorem cross_moved {ys zs : List Int} {a b k n : Nat} (h : Cross (· < ·) ys 0 k k n) (hm : Moved ys zs a b) (hk : k ≤ a ∨ b ≤ k) (hb : b ≤ n) : Cross (· < ·) zs 0 k k n := by
  refine h.moved (fun i hi hi2 => ?_) (fun i hi hi2 => ?_)
  · by_cases h1 : a ≤ i ∧ i < b
    · obtain ⟨j, e1, e2, e3⟩ := hm.2 i h1.1 h1.2
      exact ⟨j, by omega, by omega, e3⟩
    · exact ⟨i, hi, hi2, hm.1 i (by omega)⟩
  · by_cases h1 : a ≤ i ∧ i < b
    · obtain ⟨j, e1, e2, e3⟩ := hm.2 i h1.1 h1.2
      exact ⟨j, by omega, by omega, e3⟩
    · exact ⟨i, hi, hi2, hm.1 i (by omega)⟩
theorem InsInv.start {w : Int → Int} {n : Nat} {xs : List Int} (h : Seg (· < ·) xs 0 n) : InsInv w n 0 xs :=
  ⟨fun k _ i j x y h1 h2 h3 h4 => h i j x y h1 (by omega) h4, fun k _ h => absurd h (Nat.not_lt_zero k), h⟩
theorem InsInv.asc {w : Int → Int} {n a b : Nat} {ys : List Int} (h : InsInv w n a ys) (hb : b ≤ n) : Seg (· < ·) ys a b := h.rest.part (Nat.le_refl _) hb
theorem InsInv.step {w : Int → Int} {n a : Nat} {ys zs : List Int} (h : InsInv w n a ys) (ha : a % 20 = 0) (hb : a + 20 ≤ n) (hs : Seg (ltW w) zs a (a + 20)) (hm : Moved ys zs a (a + 20)) : InsInv w n (a + 20) zs := by
  refine ⟨fun k hk => cross_moved (h.low k hk) hm (by omega) hb, fun k hk hka => ?_, ?_⟩
  · by_cases e : k = a
    · subst e
      rw [show min (k + 20) n = k + 20 by omega]
      exact hs
    · exact (h.done k hk (by omega)).same fun i h1 h2 => hm.1 i (by omega)
  · exact (h.rest.part (by omega) (Nat.le_refl _)).same fun i h1 h2 => hm.1 i (by omega)
/-- While stretches are merged two by two. -/
structure BlkInv (w : Int → Int) (n bs a : Nat) (ys : List Int) : Prop where
  low : ∀ k, (k % (2 * bs) = 0 ∧ k ≤ a) ∨ (k % bs = 0 ∧ a ≤ k) → Cross (· < ·) ys 0 k k n
  done : ∀ k, k % (2 * bs) = 0 → k < a → Seg (ltW w) ys k (min (k + 2 * bs) n)
  todo : ∀ k, k % bs = 0 → a ≤ k → Seg (ltW w) ys k (min (k + bs) n)
theorem InsInv.end_ {w : Int → Int} {n a : Nat} {ys zs : List Int} (h : InsInv w n a ys) (ha : a % 20 = 0) (hb : n < a + 20) (han : a ≤ n) (hs : Seg (ltW w) zs a n) (hm : Moved ys zs a n) : BlkInv w n 20 0 zs := by
  refine ⟨fun k hk => cross_moved (h.low k (by omega)) hm (by omega) (Nat.le_refl _), fun k _ h => absurd h (Nat.not_lt_zero k), fun k hk _ => ?_⟩
  by_cases e : k < a
  · exact (h.done k hk e).same fun i h1 h2 => hm.1 i (by omega)
  · by_cases e2 : k = a
    · subst e2
      rw [show min (k + 20) n = n by omega]
      exact hs
    · intro i j x y h1 h2 h3
      omega
theorem BlkInv.pre {w : Int → Int} {n bs a b : Nat} {ys : List Int} (h : BlkInv w n bs a ys) (hbs : bs = 20 ∨ bs = 40 ∨ bs = 80) (ha : a % (2 * bs) = 0) (hm : a + bs < b) (hb : b ≤ a + 2 * bs) (hn : b ≤ n) :
    Seg (ltW w) ys a (a + bs) ∧ Seg (ltW w) ys (a + bs) b ∧ Cross (· < ·) ys a (a + bs) (a + bs) b := by
  rcases hbs with rfl | rfl | rfl
  all_goals
    refine ⟨(h.todo a (by omega) (Nat.le_refl _)).part (Nat.le_refl _) (by omega), (h.todo (a + _) (by omega) (by omega)).part (Nat.le_refl _) (by omega), (h.low (a + _) (.inr (by omega))).part (Nat.zero_le _) (Nat.le_refl _) (Nat.le_refl _) hn⟩
theorem BlkInv.step {w : Int → Int} {n bs a : Nat} {ys zs : List Int} (h : BlkInv w n bs a ys) (hbs : bs = 20 ∨ bs = 40 ∨ bs = 80) (ha : a % (2 * bs) = 0) (hb : a + 2 * bs ≤ n) (hs : Seg (ltW w) zs a (a + 2 * bs)) (hm : Moved ys zs a (a + 2 * bs)) : BlkInv w n bs (a + 2 * bs) zs := by
  rcases hbs with rfl | rfl | rfl
  all_goals
    refine ⟨fun k hk => cross_moved (h.low k (by omega)) hm (by omega) hb, fun k hk hka => ?_, fun k hk hka => (h.todo k hk (by omega)).same fun i h1 h2 => hm.1 i (by omega)⟩
    by_cases e : k = a
    · subst e
      exact hs.part (Nat.le_refl _) (by omega)
    · exact (h.done k hk (by omega)).same fun i h1 h2 => hm.1 i (by omega)
theorem BlkInv.end_ {w : Int → Int} {n bs a : Nat} {ys zs : List Int} (h : BlkInv w n bs a ys) (hbs : bs = 20 ∨ bs = 40 ∨ bs = 80) (ha : a % (2 * bs) = 0) (hb : n < a + 2 * bs) (han : a ≤ n) (hs : Seg (ltW w) zs a n) (hm : Moved ys zs a n) : BlkInv w n (2 * bs) 0 zs := by
  rcases hbs with rfl | rfl | rfl
  all_goals
    refine ⟨fun k hk => cross_moved (h.low k (by omega)) hm (by omega) (Nat.le_refl _), fun k _ h => absurd h (Nat.not_lt_zero k), fun k hk hka => ?_⟩
    by_cases e : k < a
    · exact (h.done k (by omega) e).same fun i h1 h2 => hm.1 i (by omega)
    · by_cases e2 : k = a
      · subst e2
        exact hs.part (Nat.le_refl _) (by omega)
      · intro i j x y h1 h2 h3
        omega
theorem BlkInv.last {w : Int → Int} {n bs a : Nat} {ys : List Int} (h : BlkInv w n bs a ys) (hbs : bs = 20 ∨ bs = 40 ∨ bs = 80) (ha : a % (2 * bs) = 0) (hm : n ≤ a + bs) : Seg (ltW w) ys a n := by
  rcases hbs with rfl | rfl | rfl
  all_goals exact (h.todo a (by omega) (Nat.le_refl _)).part (Nat.le_refl _) (by omega)
theorem BlkInv.all {w : Int → Int} {n bs : Nat} {ys : List Int} (h : BlkInv w n bs 0 ys) (hb : n ≤ bs) : Seg (ltW w) ys 0 n := by
  have := h.todo 0 (Nat.zero_mod _) (Nat.le_refl _)
  exact this.part (Nat.le_refl _) (by omega)
theorem swapIdx_zero (a b t : Nat) : swapIdx a b 0 t = t := by
  unfold swapIdx
  (repeat' split) <;> omega
theorem swap_at {zs : List Int} {p q : Nat} {x y : Int} (hx : zs[p]? = some x) (hy : zs[q]? = some y) (hpq : p ≠ q) (t : Nat) : ((zs.set p y).set q x)[t]? = zs[if t = p then q else if t = q then p else t]? := by
  have hp := (List.getElem?_eq_some_iff.1 hx).1
  have hq := (List.getElem?_eq_some_iff.1 hy).1
  rw [List.getElem?_set, List.getElem?_set, List.length_set]
  by_cases h1 : t = q
  · subst h1
    rw [if_pos rfl, if_pos hq, if_neg (fun e => hpq e.symm), if_pos rfl, hx]
  · rw [if_neg (fun e => h1 e.symm)]
    by_cases h2 : t = p
    · subst h2
      rw [if_pos rfl, if_pos hp, if_pos rfl, hy]
    · rw [if_neg (fun e => h2 e.symm), if_neg h2, if_neg h1]
theorem ins_swap {ys zs : List Int} {i j j1 : Nat} (hj : j = j1 + 1) (hji : j ≤ i) (hz : ∀ t, zs[t]? = ys[if t = j then i else if j < t ∧ t ≤ i then t - 1 else t]?) {x y : Int} (hx : zs[j]? = some x) (hy : zs[j1]? = some y) :
    ∀ t, ((zs.set j y).set j1 x)[t]? = ys[if t = j1 then i else if j1 < t ∧ t ≤ i then t - 1 else t]? := by
  intro t
  have key : ∀ p q : Nat, p = q → ys[p]? = ys[q]? := fun p q e => by rw [e]
  rw [swap_at hx hy (by omega), hz]
  exact key _ _ (by (repeat' split) <;> omega)
theorem one_swap {ys zs : List Int} {a k k1 : Nat} (hk : k1 = k + 1) (hak : a ≤ k) (hz : ∀ t, zs[t]? = ys[if a ≤ t ∧ t < k then t + 1 else if t = k then a else t]?) {x y : Int} (hx : zs[k]? = some x) (hy : zs[k1]? = some y) :
    ∀ t, ((zs.set k y).set k1 x)[t]? = ys[if a ≤ t ∧ t < k1 then t + 1 else if t = k1 then a else t]? := by
  intro t
  have key : ∀ p q : Nat, p = q → ys[p]? = ys[q]? := fun p q e => by rw [e]
  rw [swap_at hx hy (by omega), hz]
  exact key _ _ (by (repeat' split) <;> omega)
theorem Seg.single {R : Int → Int → Prop} (l : List Int) (a : Nat) : Seg R l a (a + 1) := fun i j x y h1 h2 h3 => by omega
theorem Moved.exit {xs ys : List Int} {a b i : Nat} (h : Moved xs ys a i) (hi : i = b ∨ (i = a + 1 ∧ b ≤ a)) : Moved xs ys a b := by
  rcases hi with rfl | ⟨rfl, hb⟩
  · exact h
  · have ha : ys[a]? = xs[a]? := by
      obtain ⟨j, h1, h2, h3⟩ := h.2 a (Nat.le_refl _) (by omega)
      obtain rfl : j = a := by omega
      exact h3
    exact ⟨fun t _ => by
      by_cases e : t = a
      · rw [e]; exact ha
      · exact h.1 t (by omega), fun t h1 h2 => by omega⟩
theorem moved_asc {xs ys : List Int} {a b i : Nat} (h : Seg (· < ·) xs a b) (hm : Moved xs ys a i) (hi : i < b) : Cross (· < ·) ys a i i (i + 1) := fun p q x y h1 h2 h3 h4 hx hy => by
  obtain ⟨j, e1, e2, e3⟩ := hm.2 p h1 h2
  obtain rfl : q = i := by omega
  exact h j q x y e1 e2 hi (e3.symm.trans hx) ((hm.1 q (.inr (Nat.le_refl _))).symm.trans hy)
theorem ins_zero (ys : List Int) (i t : Nat) : ys[t]? = ys[if t = i then i else if i < t ∧ t ≤ i then t - 1 else t]? := by
  have key : ∀ p q : Nat, p = q → ys[p]? = ys[q]? := fun p q e => by rw [e]
  exact key _ _ (by (repeat' split) <;> omega)
theorem one_zero (ys : List Int) (a t : Nat) : ys[t]? = ys[if a ≤ t ∧ t < a then t + 1 else if t = a then a else t]? := by
  have key : ∀ p q : Nat, p = q → ys[p]? = ys[q]? := fun p q e => by rw [e]
  exact key _ _ (by (repeat' split) <;> omega)
theorem rot_none {xs : List Int} {p q r : Nat} (h : p = q ∨ q = r) (hpq : p ≤ q ∧ q ≤ r) (t : Nat) : xs[t]? = xs[rotIdx p q r t]? := by
  have key : ∀ p q : Nat, p = q → xs[p]? = xs[q]? := fun p q e => by rw [e]
  exact key _ _ (by unfold rotIdx; (repeat' split) <;> omega)
theorem seg_half {R : Int → Int → Prop} {l : List Int} {a s m : Nat} (h1 : Seg R l a s) (h2 : Seg R l s m) (h : s ≤ a ∨ m ≤ s) : Seg R l a m := by
  rcases h with h | h
  · exact h2.part h (Nat.le_refl _)
  · exact h1.part (Nat.le_refl _) h
end Go.Proofs.YtiknhfbkphoceaaGreatDoor
