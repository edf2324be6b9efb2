/-
  Several texts in one (LiP LiA LiQ LiB LiC LiD): what each proves stands at its theorems.
  Conditions: as the theorems say.
-/
import Derived.Test.YtkiaffaieniebaaDoorMacM
import Derived.Test.YtkiaffaieniebaaDoorKtP
import Derived.Deep.OwnRows
import Derived.Deep.LoopGhost
import Derived.Deep.DeepCutAuto
import Derived.Test.YtkiaffaieniebaaDoorByF
import Derived.Deep.RegionHeld3
import Derived.Deep.DrawnRows
import Derived.Test.YtkiaffaieniebaaDoorByH
namespace Go.Proofs.YtkiaffaieniebaaDoor
open Go.RowKit

/-- May instruction i go on at k? -/
def goB (m : Mac) (i k : Nat) : Bool := decide (m.op ≠ 45) && ((hasS (fldS m.op) 116 && decide (m.n = (k : Int))) || (decide (m.op ≠ 37) && decide (k = i + 1)))
/-- Is register r live ahead of m, instruction i, if X tells where it is live? -/
def stepB (ms : List Mac) (r : Nat) (X : Nat → Bool) (i : Nat) : Bool := match ms[i]? with
  | none => false
  | some m => rdS m r || (!wrS m r && (List.range ms.length).any fun k => goB m i k && X k)
theorem stepB_mono {ms : List Mac} {r : Nat} {X Y : Nat → Bool} (h : ∀ k, k < ms.length → X k = true → Y k = true) (i : Nat) (hs : stepB ms r X i = true) : stepB ms r Y i = true := by
  unfold stepB at *
  split at hs
  · cases hs
  · simp only [Bool.or_eq_true, Bool.and_eq_true, List.any_eq_true, List.mem_range] at *
    rcases hs with hs | ⟨h1, k, hk, h2, h3⟩
    · exact .inl hs
    · exact .inr ⟨h1, k, hk, h2, h k hk h3⟩
def Shut (ms : List Mac) (r : Nat) (X : Nat → Bool) : Prop := ∀ i, i < ms.length → stepB ms r X i = true → X i = true
def LiveP (ms : List Mac) (r i : Nat) : Prop := ∀ X, Shut ms r X → X i = true
open Classical in
noncomputable def liveB (ms : List Mac) (r i : Nat) : Bool := decide (LiveP ms r i)
theorem liveB_iff (ms : List Mac) (r i : Nat) : liveB ms r i = true ↔ LiveP ms r i := by unfold liveB; simp
theorem live_in {ms : List Mac} {r : Nat} {X : Nat → Bool} (hX : ∀ k, k < ms.length → X k = true → LiveP ms r k) (i : Nat) (hi : i < ms.length) (h : stepB ms r X i = true) : LiveP ms r i := by
  intro Y hY
  exact hY i hi (stepB_mono (fun k hk hx => hX k hk hx Y hY) i h)
theorem live_shut (ms : List Mac) (r : Nat) : Shut ms r (liveB ms r) := fun i hi h =>
  (liveB_iff ms r i).2 (live_in (fun k _ hk => (liveB_iff ms r k).1 hk) i hi h)
/-- A register is live ahead of an instruction just if it reads it, or does not write it and it is live behind. -/
theorem live_step (ms : List Mac) (r i : Nat) (hi : i < ms.length) : liveB ms r i = stepB ms r (liveB ms r) i := by
  rw [Bool.eq_iff_iff]
  constructor
  · intro h
    refine (liveB_iff ms r i).1 h (stepB ms r (liveB ms r)) fun j hj hs => ?_
    exact stepB_mono (fun k hk hx => live_shut ms r k hk hx) j hs
  · exact live_shut ms r i hi
theorem live_unread (ms : List Mac) (r : Nat) (h : ∀ m ∈ ms, rdS m r = false) (i : Nat) : liveB ms r i = false := by
  cases hl : liveB ms r i with
  | false => rfl
  | true =>
    have := (liveB_iff ms r i).1 hl (fun _ => false) fun j hj hs => by
      unfold stepB at hs
      split at hs
      · cases hs
      · rename_i m hm
        rw [h m (List.mem_of_getElem? hm)] at hs
        simp at hs
    cases this
/-- What has been found so far: no more than what is live. -/
def Found (ms : List Mac) (r : Nat) (X : Nat → Bool) : Prop := ∀ k, k < ms.length → X k = true → LiveP ms r k
theorem found_none (ms : List Mac) (r : Nat) : Found ms r fun _ => false := fun _ _ h => by cases h
theorem found_set {ms : List Mac} {r : Nat} {X : Nat → Bool} (h : Found ms r X) {i : Nat} (hi : i < ms.length) (hs : stepB ms r X i = true) : Found ms r fun k => if k = i then true else X k := by
  intro k hk hx
  by_cases e : k = i
  · subst e
    exact live_in h k hi hs
  · simp only [if_neg e] at hx
    exact h k hk hx
theorem found_end {ms : List Mac} {r : Nat} {X : Nat → Bool} (h : Found ms r X) (hc : Shut ms r X) (i : Nat) (hi : i < ms.length) : X i = liveB ms r i := by
  rw [Bool.eq_iff_iff, liveB_iff]
  exact ⟨h i hi, fun hl => hl X hc⟩

/-- How many of the first n are not found yet. -/
def missN (X : Nat → Bool) : Nat → Nat
  | 0 => 0
  | n + 1 => missN X n + if X n then 0 else 1
theorem missN_le (X : Nat → Bool) (n : Nat) : missN X n ≤ n := by
  induction n with
  | zero => exact Nat.le_refl _
  | succ n ih => unfold missN; split <;> omega
theorem missN_congr {X Y : Nat → Bool} : ∀ n, (∀ k, k < n → X k = Y k) → missN X n = missN Y n
  | 0, _ => rfl
  | n + 1, h => by unfold missN; rw [missN_congr n fun k hk => h k (by omega), h n (by omega)]
theorem missN_set {X : Nat → Bool} {i : Nat} (hx : X i = false) : ∀ n, i < n → missN (fun k => if k = i then true else X k) n + 1 = missN X n
  | 0, h => absurd h (Nat.not_lt_zero _)
  | n + 1, h => by
    unfold missN
    by_cases e : n = i
    · subst e
      rw [missN_congr n (fun k hk => if_neg (by omega)), hx]
      simp
    · rw [if_neg e]
      have := missN_set hx n (by omega)
      omega
/-- The same of the sets of all registers at once. -/
def missS (S : Nat → Nat) : Nat → Nat
  | 0 => 0
  | n + 1 => missS S n + missN (fun r => (S n).testBit r) 16
theorem missS_congr {S T : Nat → Nat} : ∀ n, (∀ k, k < n → S k = T k) → missS S n = missS T n
  | 0, _ => rfl
  | n + 1, h => by unfold missS; rw [missS_congr n fun k hk => h k (by omega), h n (by omega)]
theorem missN_mono {X Y : Nat → Bool} : ∀ n, (∀ k, k < n → X k = true → Y k = true) → missN Y n ≤ missN X n
  | 0, _ => Nat.le_refl _
  | n + 1, h => by
    unfold missN
    have := missN_mono n fun k hk => h k (by omega)
    have h2 := h n (by omega)
    cases hx : X n <;> cases hy : Y n <;> simp_all <;> omega
theorem missN_lt {X Y : Nat → Bool} {i : Nat} (hx : X i = false) (hy : Y i = true) : ∀ n, (∀ k, k < n → X k = true → Y k = true) → i < n → missN Y n < missN X n
  | 0, _, h => absurd h (Nat.not_lt_zero _)
  | n + 1, hm, h => by
    unfold missN
    by_cases e : n = i
    · subst e
      have := missN_mono n fun k hk => hm k (by omega)
      rw [hx, hy]
      simp
      omega
    · have := missN_lt hx hy n (fun k hk => hm k (by omega)) (by omega)
      have h2 := hm n (by omega)
      cases hx' : X n <;> cases hy' : Y n <;> simp_all <;> omega
theorem missS_set {S : Nat → Nat} {i s : Nat} (hlt : missN (fun r => s.testBit r) 16 < missN (fun r => (S i).testBit r) 16) : ∀ n, i < n → missS (fun k => if k = i then s else S k) n < missS S n
  | 0, h => absurd h (Nat.not_lt_zero _)
  | n + 1, h => by
    unfold missS
    by_cases e : n = i
    · subst e
      rw [missS_congr n (fun k hk => if_neg (by omega))]
      simp
      omega
    · rw [if_neg e]
      have := missS_set hlt n (by omega)
      omega
theorem testBit_ge16 {s : Nat} (hs : Bits16 s) {r : Nat} (hr : 16 ≤ r) : s.testBit r = false :=
  Nat.testBit_lt_two_pow (Nat.lt_of_lt_of_le hs (by rw [show (65536 : Nat) = 2 ^ 16 by decide]; exact Nat.pow_le_pow_right (by decide) hr))
/-- Two sets that differ: if one holds the other, it lacks fewer. -/
theorem miss_less {s t : Nat} (hs : Bits16 s) (ht : Bits16 t) (hne : s ≠ t) (hsub : ∀ r, r < 16 → t.testBit r = true → s.testBit r = true) : missN (fun r => s.testBit r) 16 < missN (fun r => t.testBit r) 16 := by
  by_cases h : ∃ r, r < 16 ∧ t.testBit r = false ∧ s.testBit r = true
  · obtain ⟨r, hr, h1, h2⟩ := h
    exact missN_lt h1 h2 16 hsub hr
  · exfalso
    apply hne
    apply Nat.eq_of_testBit_eq
    intro r
    by_cases hr : r < 16
    · cases h1 : t.testBit r with
      | true => exact hsub r hr h1
      | false =>
        cases h2 : s.testBit r with
        | false => rfl
        | true => exact absurd ⟨r, hr, h1, h2⟩ h
    · rw [testBit_ge16 hs (by omega), testBit_ge16 ht (by omega)]
end Go.Proofs.YtkiaffaieniebaaDoor
namespace Go.Proofs.YtkiaffaieniebaaDoor
open Go.RowKit

theorem infoBool : (Tryd.prog.info? 4).map (fun i => (i.zero, i.size, i.bytes)) = some (some (.bool false), 1, 1) := by kernel_rfl
/-- A block is a row of n cells; what a walk needs of it. -/
theorem row_below {w w' : World} {g B : Nat} {t : TypeId} {n : Nat} {f : Nat → Value} (h : w.rowIs g t n f) (hb : Below B w w') (hg : g < B) : w'.rowIs g t n f := h.of_block (hb.block g hg)

theorem target_in {m : Mac} {many : Int} (h : faultS m many = 0) (ht : hasS (fldS m.op) 116 = true) : 0 ≤ m.n ∧ m.n < many := by
  obtain ⟨ho, _, _, _, _, hn⟩ := (fault_zero m many).1 h
  rcases (fld_cases _ ho).2 with ⟨_, e2, _⟩ | ⟨_, _, _, _, e5⟩ | ⟨_, e2, _⟩ | ⟨_, e2, _⟩ | ⟨_, e2, _⟩
  · rw [e2] at ht; cases ht
  · rw [e5] at hn
    unfold numberS at hn
    rw [if_neg (by omega), if_neg (by omega), if_neg (by omega), if_neg (by omega)] at hn
    split at hn
    · cases hn
    · omega
  · rw [e2] at ht; cases ht
  · rw [e2] at ht; cases ht
  · rw [e2] at ht; cases ht
theorem ret_target : hasS (fldS 45) 116 = false := by decide +kernel
/-- What the code asks of an instruction's successors. -/
theorem step_code {ms : List Mac} {r : Nat} {X : Nat → Bool} {j : Nat} {m : Mac} (hm : ms[j]? = some m) (hf : faultS m (ms.length : Int) = 0) :
    stepB ms r X j = (rdS m r || (!wrS m r && ((decide (j + 1 < ms.length) && X (j + 1) && goB m j (j + 1)) || (hasS (fldS m.op) 116 && X m.n.toNat)))) := by
  unfold stepB
  rw [hm]
  simp only
  congr 1
  congr 1
  rw [Bool.eq_iff_iff, List.any_eq_true]
  simp only [List.mem_range, Bool.and_eq_true, Bool.or_eq_true, decide_eq_true_eq]
  constructor
  · rintro ⟨k, hk, hg, hx⟩
    unfold goB at hg
    simp only [Bool.and_eq_true, Bool.or_eq_true, decide_eq_true_eq] at hg
    obtain ⟨h45, ⟨h1, h2⟩ | ⟨h1, h2⟩⟩ := hg
    · right
      exact ⟨h1, by rw [h2]; simpa using hx⟩
    · left
      subst h2
      refine ⟨⟨hk, hx⟩, ?_⟩
      unfold goB
      simp [h45, h1]
  · rintro (⟨⟨h1, h2⟩, h3⟩ | ⟨h1, h2⟩)
    · exact ⟨j + 1, h1, h3, h2⟩
    · have ht := target_in hf h1
      refine ⟨m.n.toNat, by omega, ?_, h2⟩
      unfold goB
      have h45 : m.op ≠ 45 := by
        intro h
        rw [h, ret_target] at h1
        cases h1
      simp only [Bool.and_eq_true, Bool.or_eq_true, decide_eq_true_eq]
      exact ⟨h45, .inl ⟨h1, by omega⟩⟩

/-- The inner loop of LiveOne: instructions gi - 1 .. 0 are to come. -/
def oneIn (ms : List Mac) (r len : Nat) (X : Nat → Bool) (w : World) (gi : Nat) (cv iv : Value) (wx : World) : Prop :=
  ∃ (Y : Nat → Bool) (cb : Bool) (z : Int), cv = .bool cb ∧ iv = .int .i64 z ∧ z = (gi : Int) - 1 ∧ gi ≤ len ∧ Hid (wx.rowIs w.heap.size 4 len (fun i => .bool (Y i))) ∧ Hid (Found ms r Y) ∧ Hid (Below w.heap.size w wx) ∧
    Hid (cb = true → missN Y len < missN X len) ∧ Hid (cb = false → missN Y len = missN X len ∧ ∀ j, gi ≤ j → j < len → stepB ms r Y j = true → Y j = true)
/-- The outer loop. -/
def oneOut (ms : List Mac) (r len : Nat) (w : World) (gk : Nat) (cv : Value) (wr : World) : Prop :=
  ∃ (X : Nat → Bool) (bb : Bool), cv = .bool bb ∧ Hid (wr.rowIs w.heap.size 4 len (fun i => .bool (X i))) ∧ Hid (Found ms r X) ∧ Hid (Below w.heap.size w wr) ∧ Hid (gk = 2 * missN X len + (if bb then 1 else 0)) ∧ Hid (bb = false → Shut ms r X)
section
variable {ms : List Mac} {r len : Nat} {X Y : Nat → Bool} {w wx : World} {j : Nat} {cb : Bool}
theorem oneIn_store (hlen : ms.length = len) (hj : j < len) (hR : wx.rowIs w.heap.size 4 len (fun i => .bool (Y i))) (hF : Found ms r Y) (hB : Below w.heap.size w wx) (h1 : cb = true → missN Y len < missN X len)
    (h0 : cb = false → missN Y len = missN X len ∧ ∀ q, j + 1 ≤ q → q < len → stepB ms r Y q = true → Y q = true) (hy : Y j = false) (hs : stepB ms r Y j = true) :
    oneIn ms r len X w j (.bool true) (.int .i64 ((j : Int) - 1)) (wx.setCell ⟨w.heap.size, j, none⟩ (.bool true)) := by
  have hm := missN_set hy len hj
  have hle : missN Y len ≤ missN X len := by
    cases cb
    · exact Nat.le_of_eq (h0 rfl).1
    · exact Nat.le_of_lt (h1 rfl)
  refine ⟨fun k => if k = j then true else Y k, true, _, rfl, rfl, rfl, by omega, Lib.hid ?_, Lib.hid (found_set hF (by omega) hs), Lib.hid (hB.setCell (Nat.le_refl _) _), Lib.hid fun _ => by omega, Lib.hid fun h => by cases h⟩
  refine (hR.set j (.bool true)).congr fun i hi => ?_
  by_cases e : i = j <;> simp [e]
theorem oneIn_skip (hj : j < len) (hR : wx.rowIs w.heap.size 4 len (fun i => .bool (Y i))) (hF : Found ms r Y) (hB : Below w.heap.size w wx) (h1 : cb = true → missN Y len < missN X len)
    (h0 : cb = false → missN Y len = missN X len ∧ ∀ q, j + 1 ≤ q → q < len → stepB ms r Y q = true → Y q = true) (hs : stepB ms r Y j = true → Y j = true) :
    oneIn ms r len X w j (.bool cb) (.int .i64 ((j : Int) - 1)) wx := by
  refine ⟨Y, cb, _, rfl, rfl, rfl, by omega, Lib.hid hR, Lib.hid hF, Lib.hid hB, Lib.hid h1, Lib.hid fun h => ⟨(h0 h).1, fun q q1 q2 q3 => ?_⟩⟩
  rcases Nat.eq_or_lt_of_le q1 with h4 | h4
  · subst h4; exact hs q3
  · exact (h0 h).2 q h4 q2 q3
theorem oneIn_end (hlen : ms.length = len) (hR : wx.rowIs w.heap.size 4 len (fun i => .bool (Y i))) (hF : Found ms r Y) (hB : Below w.heap.size w wx) (h1 : cb = true → missN Y len < missN X len)
    (h0 : cb = false → missN Y len = missN X len ∧ ∀ q, 0 ≤ q → q < len → stepB ms r Y q = true → Y q = true) : ∃ q, q < 2 * missN X len + 1 ∧ oneOut ms r len w q (.bool cb) wx := by
  refine ⟨2 * missN Y len + (if cb then 1 else 0), ?_, Y, cb, rfl, Lib.hid hR, Lib.hid hF, Lib.hid hB, Lib.hid rfl, Lib.hid fun h i hi hs => ?_⟩
  · cases cb
    · have := (h0 rfl).1
      simp
      omega
    · have := h1 rfl
      simp
      omega
  · exact (h0 h).2 i (Nat.zero_le _) (by omega) hs
end
end Go.Proofs.YtkiaffaieniebaaDoor
namespace Go.Proofs.YtkiaffaieniebaaDoor
open Go.RowKit

/-- Where it may go on behind instruction i. -/
def nextL (m : Mac) (i : Nat) : List Int := if m.op = 45 then [] else if m.op = 37 then [m.n] else if shK m.op = 2 then [(i : Int) + 1, m.n] else [(i : Int) + 1]
theorem nextL_len (m : Mac) (i : Nat) : (nextL m i).length ≤ 2 := by unfold nextL; (repeat' split) <;> simp
theorem jump_target : hasS (fldS 37) 116 = true := by decide +kernel
theorem kind_target (op : Int) (h : isOp op = true) : hasS (fldS op) 116 = true ↔ shK op = 2 := by
  rcases (fld_cases _ h).2 with ⟨_, e2, _, _, e5⟩ | ⟨_, e2, _, _, e5⟩ | ⟨_, e2, _, _, e5⟩ | ⟨_, e2, _, _, e5⟩ | ⟨_, e2, _, _, e5⟩ <;> rw [e2, e5] <;> simp
/-- The successors lie in the code. -/
theorem next_in {ms : List Mac} {i : Nat} {m : Mac} (hm : ms[i]? = some m) (hf : faultS m (ms.length : Int) = 0) (hlast : ∀ m, ms[ms.length - 1]? = some m → m.op = 37 ∨ m.op = 45) : ∀ k ∈ nextL m i, 0 ≤ k ∧ k < (ms.length : Int) := by
  have hi := (List.getElem?_eq_some_iff.1 hm).1
  have ho := ((fault_zero m _).1 hf).1
  have hnext : ¬ (m.op = 37 ∨ m.op = 45) → i + 1 < ms.length := by
    intro h
    rcases Nat.lt_or_ge (i + 1) ms.length with h1 | h1
    · exact h1
    · exfalso
      have : i = ms.length - 1 := by omega
      subst this
      exact h (hlast m hm)
  intro k hk
  unfold nextL at hk
  split at hk
  · cases hk
  split at hk
  · rename_i h37
    rw [List.mem_singleton.1 hk]
    exact target_in hf (by rw [h37]; exact jump_target)
  split at hk
  · rename_i h45 h37 h2
    have := hnext (by omega)
    simp only [List.mem_cons, List.not_mem_nil, or_false] at hk
    rcases hk with rfl | rfl
    · omega
    · exact target_in hf ((kind_target _ ho).2 h2)
  · rename_i h45 h37 h2
    have := hnext (by omega)
    rw [List.mem_singleton.1 hk]
    omega
theorem step_next {ms : List Mac} {r : Nat} {X : Nat → Bool} {j : Nat} {m : Mac} (hm : ms[j]? = some m) (hf : faultS m (ms.length : Int) = 0) (hlast : ∀ m, ms[ms.length - 1]? = some m → m.op = 37 ∨ m.op = 45) :
    stepB ms r X j = (rdS m r || ((nextL m j).any (fun k => X k.toNat) && !wrS m r)) := by
  have hin := next_in hm hf hlast
  have ho := ((fault_zero m _).1 hf).1
  unfold stepB
  rw [hm]
  simp only
  congr 1
  rw [Bool.and_comm]
  congr 1
  rw [Bool.eq_iff_iff, List.any_eq_true, List.any_eq_true]
  simp only [List.mem_range, Bool.and_eq_true]
  constructor
  · rintro ⟨k, hk, hg, hx⟩
    unfold goB at hg
    simp only [Bool.and_eq_true, Bool.or_eq_true, decide_eq_true_eq] at hg
    obtain ⟨h45, hg⟩ := hg
    refine ⟨(k : Int), ?_, by simpa using hx⟩
    unfold nextL
    rw [if_neg h45]
    rcases hg with ⟨h1, h2⟩ | ⟨h1, h2⟩
    · rw [← h2]
      split
      · simp
      · rw [if_pos ((kind_target _ ho).1 h1)]
        simp
    · rw [if_neg h1, h2]
      split <;> simp
  · rintro ⟨k, hk, hx⟩
    have hkin := hin k hk
    refine ⟨k.toNat, by omega, ?_, hx⟩
    unfold goB
    simp only [Bool.and_eq_true, Bool.or_eq_true, decide_eq_true_eq]
    unfold nextL at hk
    split at hk
    · cases hk
    rename_i h45
    refine ⟨h45, ?_⟩
    split at hk
    · rename_i h37
      left
      rw [List.mem_singleton.1 hk] at hkin ⊢
      exact ⟨by rw [h37]; exact jump_target, by omega⟩
    rename_i h37
    split at hk
    · rename_i h2
      simp only [List.mem_cons, List.not_mem_nil, or_false] at hk
      rcases hk with rfl | rfl
      · right
        exact ⟨h37, by omega⟩
      · left
        exact ⟨(kind_target _ ho).2 h2, by omega⟩
    · right
      rw [List.mem_singleton.1 hk]
      exact ⟨h37, by omega⟩
/-- All sets of a list's places, as one. -/
def orS (S : Nat → Nat) (l : List Int) : Nat := l.foldl (fun a k => a ||| S k.toNat) 0
theorem orS_snoc (S : Nat → Nat) (l : List Int) (k : Int) : orS S (l ++ [k]) = orS S l ||| S k.toNat := by unfold orS; rw [List.foldl_append]; rfl
theorem or_fold_bits (S : Nat → Nat) (hS : ∀ i, Bits16 (S i)) : ∀ (l : List Int) (a : Nat), Bits16 a → Bits16 (l.foldl (fun a k => a ||| S k.toNat) a) ∧ ∀ r, (l.foldl (fun a k => a ||| S k.toNat) a).testBit r = (a.testBit r || l.any fun k => (S k.toNat).testBit r)
  | [], a, ha => ⟨ha, fun r => by simp⟩
  | k :: l, a, ha => by
    have := or_fold_bits S hS l (a ||| S k.toNat) (or_lt16 _ _ ha (hS _))
    refine ⟨this.1, fun r => ?_⟩
    rw [List.foldl_cons, this.2, Nat.testBit_or, List.any_cons, Bool.or_assoc]
theorem or_all_bits (S : Nat → Nat) (hS : ∀ i, Bits16 (S i)) (l : List Int) : Bits16 (orS S l) ∧ ∀ r, (orS S l).testBit r = l.any fun k => (S k.toNat).testBit r := by
  have := or_fold_bits S hS l 0 (by unfold Bits16; omega)
  refine ⟨this.1, fun r => ?_⟩
  rw [show orS S l = l.foldl (fun a k => a ||| S k.toNat) 0 from rfl, this.2]
  simp
/-- What the program makes of an instruction's set. -/
def setS (m : Mac) (u : Nat) : Nat := rdN m ||| (u &&& (18446744073709551615 - wrN m))
theorem set_bits (m : Mac) (h : RegsOk m) (u : Nat) (hu : Bits16 u) : Bits16 (setS m u) ∧ ∀ r, r < 16 → (setS m u).testBit r = (rdS m r || (u.testBit r && !wrS m r)) := by
  have hr := rd_bits m h
  have hw := wr_bits m h
  have hwlt : wrN m < 65536 := hw.1
  have hb : Bits16 (u &&& (18446744073709551615 - wrN m)) := by
    unfold Bits16 at *
    exact Nat.lt_of_le_of_lt Nat.and_le_left hu
  refine ⟨or_lt16 _ _ hr.1 hb, fun r hr16 => ?_⟩
  unfold setS
  rw [Nat.testBit_or, hr.2 r hr16, Nat.testBit_and, show (18446744073709551615 : Nat) - wrN m = 2 ^ 64 - (wrN m + 1) by omega, Nat.testBit_two_pow_sub_succ (by omega), hw.2 r hr16]
  simp [show r < 64 by omega]
theorem set_reckon (m : Mac) (h : RegsOk m) (u : Nat) (hu : Bits16 u) : bits .or .u64 (rdN m : Int) (bits .andNot .u64 (u : Int) (wrN m : Int)) = (setS m u : Int) := by
  have hr := (rd_bits m h).1
  have hw := (wr_bits m h).1
  unfold Bits16 at *
  have h1 : u &&& (18446744073709551615 - wrN m) ≤ u := Nat.and_le_left
  rw [u64_andNot_nat _ _ (by omega) (by omega), u64_or_nat _ _ (by omega) (by omega)]
  rfl
end Go.Proofs.YtkiaffaieniebaaDoor
namespace Go.Proofs.YtkiaffaieniebaaDoor
open Go.RowKit

set_option maxRecDepth 100000 in
set_option maxHeartbeats 1000000 in
theorem Next_any (c n i : Nat) (b off : Nat) (op dst a b' nn : Int) (w : World) (ht : Tab w) (hi : i < n) (hn : n ≤ 5000) (hm : MacAt w b (off + i * 5) ⟨op, dst, a, b', nn⟩) :
    Calls Tryd.prog 61 #[.slice (some ⟨b, off, none⟩) n c, .int .i64 i] w fun e w' => ∃ v, e = .returned v ∧ OwnInts w' w.heap.size v (nextL ⟨op, dst, a, b', nn⟩ i) ∧ Below w.heap.size w w' := by
  obtain ⟨c0, c1, c2, c3, c4⟩ := hm
  have HT := Lib.hid (ht.own ((Below.refl w.heap.size w).alloc (Nat.le_refl _) (.cells #[.int .i64 op, .int .i64 dst, .int .i64 a, .int .i64 b', .int .i64 nn] 24)))
  clear ht
  have hend : ∀ (W : World) (xs : List Int), Below w.heap.size w W → xs.length ≤ 10 → OwnInts (W.alloc (.cells (xs.map (Value.int .i64)).toArray 3)) w.heap.size (.slice (some ⟨W.heap.size, 0, none⟩) xs.length xs.length) xs := by
    intro W xs hW hl
    have := World.ownsRow_lit (base := w.heap.size) (e := 3) (size := 1) W (xs.map (Value.int .i64)).toArray xs.length hW.size (by unfold maxLen; omega) (by simp)
    simpa [OwnInts] using this
  have HEnd := Lib.hid hend
  clear hend
  by_cases h45 : op = 45
  · have HE : Hid (nextL ⟨op, dst, a, b', nn⟩ i = []) := Lib.hid (by unfold nextL; rw [if_pos h45])
    have e1 : (op == 45) = true := by simp [h45]
    clear h45
    go_enter Tryd.func61, Tryd.ntmps61
    go_wp2_with fail
    refine (Of_any _ _ HT.out).mono ?_
    rintro e w1 ⟨rfl, hb1⟩
    have hz : w.heap.size < w1.heap.size := by have := hb1.size; simp at this; omega
    have hk1 := (Blk.new w 24 #[.int .i64 op, .int .i64 dst, .int .i64 a, .int .i64 b', .int .i64 nn]).below hb1 (by simp)
    have r0 := hk1.cell 0
    have HB1 : Hid (Below w.heap.size w w1) := Lib.hid (((Below.refl _ _).alloc (Nat.le_refl _) _).trans (hb1.mono (by simp)))
    clear hb1 hk1
    go_wp2_with fail
    go_ret
    refine ⟨_, rfl, ?_, HB1.out.alloc (by omega) _⟩
    rw [HE.out]
    exact OwnInts.nil _ _
  have e1 : (op == 45) = false := by simp [h45]
  by_cases h37 : op = 37
  · have HE : Hid (nextL ⟨op, dst, a, b', nn⟩ i = [nn]) := Lib.hid (by unfold nextL; rw [if_neg h45, if_pos h37])
    have e2 : (op == 37) = true := by simp [h37]
    clear h45 h37
    go_enter Tryd.func61, Tryd.ntmps61
    go_wp2_with fail
    refine (Of_any _ _ HT.out).mono ?_
    rintro e w1 ⟨rfl, hb1⟩
    have hz : w.heap.size < w1.heap.size := by have := hb1.size; simp at this; omega
    have hk1 := (Blk.new w 24 #[.int .i64 op, .int .i64 dst, .int .i64 a, .int .i64 b', .int .i64 nn]).below hb1 (by simp)
    have r0 := hk1.cell 0
    have r4 := hk1.cell 4
    have HB1 : Hid (Below w.heap.size w w1) := Lib.hid (((Below.refl _ _).alloc (Nat.le_refl _) _).trans (hb1.mono (by simp)))
    clear hb1 hk1
    go_wp2_with fail
    go_ret
    have HB2 := HB1.out.alloc (Nat.le_of_lt hz) (.cells #[.bool (shD op), .bool (shA op), .bool (shB op), .int .i64 (shK op)] 134)
    refine ⟨_, rfl, ?_, HB2.alloc (by simp; omega) _⟩
    rw [HE.out]
    have := HEnd.out _ [nn] HB2 (by simp)
    simpa using this
  have e2 : (op == 37) = false := by simp [h37]
  by_cases h2 : shK op = 2
  · have HE : Hid (nextL ⟨op, dst, a, b', nn⟩ i = [(i : Int) + 1, nn]) := Lib.hid (by unfold nextL; rw [if_neg h45, if_neg h37, if_pos h2])
    have e3 : (shK op == 2) = true := by simp [h2]
    clear h45 h37 h2
    go_enter Tryd.func61, Tryd.ntmps61
    go_wp2_with fail
    refine (Of_any _ _ HT.out).mono ?_
    rintro e w1 ⟨rfl, hb1⟩
    have hz : w.heap.size < w1.heap.size := by have := hb1.size; simp at this; omega
    have hk1 := (Blk.new w 24 #[.int .i64 op, .int .i64 dst, .int .i64 a, .int .i64 b', .int .i64 nn]).below hb1 (by simp)
    have r0 := hk1.cell 0
    have r4 := hk1.cell 4
    have HB1 : Hid (Below w.heap.size w w1) := Lib.hid (((Below.refl _ _).alloc (Nat.le_refl _) _).trans (hb1.mono (by simp)))
    clear hb1 hk1
    go_wp2_with fail
    go_ret
    have HB2 := HB1.out.alloc (Nat.le_of_lt hz) (.cells #[.bool (shD op), .bool (shA op), .bool (shB op), .int .i64 (shK op)] 134)
    refine ⟨_, rfl, ?_, HB2.alloc (by simp; omega) _⟩
    rw [HE.out]
    have := HEnd.out _ [(i : Int) + 1, nn] HB2 (by simp)
    simpa using this
  · have HE : Hid (nextL ⟨op, dst, a, b', nn⟩ i = [(i : Int) + 1]) := Lib.hid (by unfold nextL; rw [if_neg h45, if_neg h37, if_neg h2])
    have e3 : (shK op == 2) = false := by simp [h2]
    clear h45 h37 h2
    go_enter Tryd.func61, Tryd.ntmps61
    go_wp2_with fail
    refine (Of_any _ _ HT.out).mono ?_
    rintro e w1 ⟨rfl, hb1⟩
    have hz : w.heap.size < w1.heap.size := by have := hb1.size; simp at this; omega
    have hk1 := (Blk.new w 24 #[.int .i64 op, .int .i64 dst, .int .i64 a, .int .i64 b', .int .i64 nn]).below hb1 (by simp)
    have r0 := hk1.cell 0
    have r4 := hk1.cell 4
    have HB1 : Hid (Below w.heap.size w w1) := Lib.hid (((Below.refl _ _).alloc (Nat.le_refl _) _).trans (hb1.mono (by simp)))
    clear hb1 hk1
    go_wp2_with fail
    go_ret
    have HB2 := HB1.out.alloc (Nat.le_of_lt hz) (.cells #[.bool (shD op), .bool (shA op), .bool (shB op), .int .i64 (shK op)] 134)
    refine ⟨_, rfl, ?_, HB2.alloc (by simp; omega) _⟩
    rw [HE.out]
    have := HEnd.out _ [(i : Int) + 1] HB2 (by simp)
    simpa using this
end Go.Proofs.YtkiaffaieniebaaDoor
namespace Go.Proofs.YtkiaffaieniebaaDoor
open Go.RowKit
attribute [local go_sem ↓] Go.wp_at_zero Go.wp_at_succ

theorem infoSet : (Tryd.prog.info? 90).map (fun i => (i.zero, i.size, i.bytes)) = some (some (.int .u64 0), 1, 8) := by kernel_rfl
/-- What is found so far, of all registers: no more than what is live, and each of it justified. -/
structure SetsOk (ms : List Mac) (S : Nat → Nat) : Prop where
  bits : ∀ i, Bits16 (S i)
  found : ∀ r, r < 16 → Found ms r (fun i => (S i).testBit r)
  just : ∀ r i, r < 16 → i < ms.length → (S i).testBit r = true → stepB ms r (fun i => (S i).testBit r) i = true
theorem sets_none (ms : List Mac) : SetsOk ms fun _ => 0 := ⟨fun _ => by unfold Bits16; omega, fun r _ k _ h => by simp at h, fun r i _ _ h => by simp at h⟩
theorem sets_set {ms : List Mac} {S : Nat → Nat} (h : SetsOk ms S) {i : Nat} (hi : i < ms.length) {s : Nat} (hs : Bits16 s) (hb : ∀ r, r < 16 → s.testBit r = stepB ms r (fun i => (S i).testBit r) i) : SetsOk ms fun k => if k = i then s else S k := by
  have sub : ∀ r, r < 16 → ∀ k, k < ms.length → (S k).testBit r = true → (if k = i then s else S k).testBit r = true := by
    intro r hr k hk hx
    by_cases e : k = i
    · subst e
      rw [if_pos rfl, hb r hr]
      exact h.just r k hr hk hx
    · rw [if_neg e]; exact hx
  refine ⟨fun k => ?_, fun r hr k hk hx => ?_, fun r k hr hk hx => ?_⟩
  · by_cases e : k = i
    · rw [if_pos e]; exact hs
    · rw [if_neg e]; exact h.bits k
  · by_cases e : k = i
    · subst e
      simp only [if_true] at hx
      rw [hb r hr] at hx
      exact live_in (h.found r hr) k hk hx
    · simp only [if_neg e] at hx
      exact h.found r hr k hk hx
  · by_cases e : k = i
    · subst e
      simp only [if_true] at hx
      rw [hb r hr] at hx
      exact stepB_mono (fun q hq => sub r hr q hq) k hx
    · simp only [if_neg e] at hx
      exact stepB_mono (fun q hq => sub r hr q hq) k (h.just r k hr hk hx)
/-- The inner loop of live: instructions gi - 1 .. 0 are to come. -/
def setIn (ms : List Mac) (len : Nat) (X : Nat → Nat) (w : World) (gi : Nat) (cv iv : Value) (wx : World) : Prop :=
  ∃ (Y : Nat → Nat) (cb : Bool) (z : Int), cv = .bool cb ∧ iv = .int .i64 z ∧ z = (gi : Int) - 1 ∧ gi ≤ len ∧ Hid (wx.rowIs w.heap.size 90 len (fun i => .int .u64 (Y i : Int))) ∧ Hid (SetsOk ms Y) ∧ Hid (Below w.heap.size w wx) ∧
    Hid (cb = true → missS Y len < missS X len) ∧ Hid (cb = false → missS Y len = missS X len ∧ ∀ j, gi ≤ j → j < len → ∀ r, r < 16 → stepB ms r (fun i => (Y i).testBit r) j = true → (Y j).testBit r = true)
/-- The outer loop. -/
def setOut (ms : List Mac) (len : Nat) (w : World) (gk : Nat) (cv : Value) (wr : World) : Prop :=
  ∃ (X : Nat → Nat) (bb : Bool), cv = .bool bb ∧ Hid (wr.rowIs w.heap.size 90 len (fun i => .int .u64 (X i : Int))) ∧ Hid (SetsOk ms X) ∧ Hid (Below w.heap.size w wr) ∧ Hid (gk = 2 * missS X len + (if bb then 1 else 0)) ∧ Hid (bb = false → ∀ r, r < 16 → Shut ms r (fun i => (X i).testBit r))
section
variable {ms : List Mac} {len : Nat} {X Y : Nat → Nat} {w wx : World} {j s : Nat} {cb : Bool}
theorem setIn_store (hlen : ms.length = len) (hj : j < len) (hR : wx.rowIs w.heap.size 90 len (fun i => .int .u64 (Y i : Int))) (hF : SetsOk ms Y) (hB : Below w.heap.size w wx) (h1 : cb = true → missS Y len < missS X len)
    (h0 : cb = false → missS Y len = missS X len ∧ ∀ q, j + 1 ≤ q → q < len → ∀ r, r < 16 → stepB ms r (fun i => (Y i).testBit r) q = true → (Y q).testBit r = true) (hne : s ≠ Y j) (hs : Bits16 s) (hb : ∀ r, r < 16 → s.testBit r = stepB ms r (fun i => (Y i).testBit r) j) :
    setIn ms len X w j (.bool true) (.int .i64 ((j : Int) - 1)) (wx.setCell ⟨w.heap.size, j, none⟩ (.int .u64 s)) := by
  have hm := missS_set (S := Y) (i := j) (s := s) (miss_less hs (hF.bits j) hne fun r hr hx => by rw [hb r hr]; exact hF.just r j hr (by omega) hx) len hj
  have hle : missS Y len ≤ missS X len := by
    cases cb
    · exact Nat.le_of_eq (h0 rfl).1
    · exact Nat.le_of_lt (h1 rfl)
  refine ⟨fun k => if k = j then s else Y k, true, _, rfl, rfl, rfl, by omega, Lib.hid ?_, Lib.hid (sets_set hF (by omega) hs hb), Lib.hid (hB.setCell (Nat.le_refl _) _), Lib.hid fun _ => by omega, Lib.hid fun h => by cases h⟩
  refine (hR.set j (.int .u64 s)).congr fun i hi => ?_
  by_cases e : i = j <;> simp [e]
theorem setIn_skip (hj : j < len) (hR : wx.rowIs w.heap.size 90 len (fun i => .int .u64 (Y i : Int))) (hF : SetsOk ms Y) (hB : Below w.heap.size w wx) (h1 : cb = true → missS Y len < missS X len)
    (h0 : cb = false → missS Y len = missS X len ∧ ∀ q, j + 1 ≤ q → q < len → ∀ r, r < 16 → stepB ms r (fun i => (Y i).testBit r) q = true → (Y q).testBit r = true) (he : s = Y j) (hb : ∀ r, r < 16 → s.testBit r = stepB ms r (fun i => (Y i).testBit r) j) :
    setIn ms len X w j (.bool cb) (.int .i64 ((j : Int) - 1)) wx := by
  refine ⟨Y, cb, _, rfl, rfl, rfl, by omega, Lib.hid hR, Lib.hid hF, Lib.hid hB, Lib.hid h1, Lib.hid fun h => ⟨(h0 h).1, fun q q1 q2 r hr q3 => ?_⟩⟩
  rcases Nat.eq_or_lt_of_le q1 with h4 | h4
  · subst h4; rw [← he, hb r hr]; exact q3
  · exact (h0 h).2 q h4 q2 r hr q3
theorem setIn_end (hlen : ms.length = len) (hR : wx.rowIs w.heap.size 90 len (fun i => .int .u64 (Y i : Int))) (hF : SetsOk ms Y) (hB : Below w.heap.size w wx) (h1 : cb = true → missS Y len < missS X len)
    (h0 : cb = false → missS Y len = missS X len ∧ ∀ q, 0 ≤ q → q < len → ∀ r, r < 16 → stepB ms r (fun i => (Y i).testBit r) q = true → (Y q).testBit r = true) : ∃ q, q < 2 * missS X len + 1 ∧ setOut ms len w q (.bool cb) wx := by
  refine ⟨2 * missS Y len + (if cb then 1 else 0), ?_, Y, cb, rfl, Lib.hid hR, Lib.hid hF, Lib.hid hB, Lib.hid rfl, Lib.hid fun h r hr i hi hs => ?_⟩
  · cases cb
    · have := (h0 rfl).1
      simp
      omega
    · have := h1 rfl
      simp
      omega
  · exact (h0 h).2 i (Nat.zero_le _) (by omega) r hr hs
end

/-- What mac.live comes to. -/
def LivePost (ms : List Mac) (w : World) (e : Ending) (w' : World) : Prop :=
  ∃ (g : Nat) (S : Nat → Nat), e = .returned (.slice (some ⟨g, 0, none⟩) ms.length ms.length) ∧ w'.rowIs g 90 ms.length (fun i => .int .u64 (S i : Nat)) ∧ w.heap.size ≤ g ∧ Below w.heap.size w w' ∧ ∀ i, i < ms.length → HasBits (S i) (fun r => liveB ms r i)
theorem or_next {Y : Nat → Nat} (hY : ∀ i, Bits16 (Y i)) {nl : List Int} {q : Nat} {k : Int} (h : nl[q]? = some k) : bits .or .u64 ((orS Y (nl.take q) : Nat) : Int) ((Y k.toNat : Nat) : Int) = ((orS Y (nl.take (q + 1)) : Nat) : Int) := by
  have h1 := (or_all_bits Y hY (nl.take q)).1
  have h2 := hY k.toNat
  unfold Bits16 at h1 h2
  rw [take_snoc' nl q k h, orS_snoc, u64_or_nat _ _ (by omega) (by omega)]

set_option maxRecDepth 100000 in
set_option maxHeartbeats 4000000 in
theorem live_any (v : Value) (ms : List Mac) (w : World) (hv : MacsAt w w.heap.size v ms) (ht : Tab w) (hok : (checkS ms).1 = 0) :
    Calls Tryd.prog 46 #[v] w (LivePost ms w) := by
  obtain ⟨hl5, hall, ml, hml, hop⟩ := (code_ok_iff ms).1 hok
  have hpos : 0 < ms.length := by have := (List.getElem?_eq_some_iff.1 hml).1; omega
  have HLast : Hid (∀ m, ms[ms.length - 1]? = some m → m.op = 37 ∨ m.op = 45) := Lib.hid fun m hm => by rw [hml] at hm; cases hm; exact hop
  have HT := Lib.hid ht
  obtain ⟨A, c, rfl, h1, h2, h3⟩ := hv
  obtain ⟨b, off, rfl, hbw, hcell⟩ := h3 hpos
  have HC := Lib.hid hcell
  have HF := Lib.hid hall
  clear hcell hall hml hop h3 hok ht
  obtain ⟨len, hlen⟩ : ∃ len, ms.length = len := ⟨_, rfl⟩
  have HL := Lib.hid hlen
  rw [hlen] at h1 h2 hl5 hpos ⊢
  clear hlen
  have hmk := fun W : World => run_make_row' (P := Tryd.prog) 87 90 (.int .u64 0) 8 Tryd.underlying87 infoSet rfl .i64 .i64 len (by omega) (by omega) W
  go_enter Tryd.func46, Tryd.ntmps46
  go_wp2_with fail
  have hrow := World.rowIs_made w (.int .u64 0) len 90
  have hb0 : Below w.heap.size w (w.alloc (.cells (madeCells #[.int .u64 0] len) 90)) := (Below.refl _ _).alloc (Nat.le_refl _) _
  generalize w.alloc (.cells (madeCells #[.int .u64 0] len) 90) = W at *
  have HR0 := Lib.hid hrow
  have HB0 := Lib.hid hb0
  clear hrow hb0 hmk
  go_loopg [4] (2 * missS (fun _ => 0) len + 1) (setOut ms len w)
  case atStart => exact ⟨fun _ => 0, true, rfl, HR0, Lib.hid (sets_none ms), HB0, Lib.hid rfl, Lib.hid (fun h => by cases h)⟩
  case round =>
    obtain ⟨X, bb, rfl, HR, HFd, HB, HG, HS⟩ := hrel
    cases bb
    · go_wp2_with fail
      go_ret
      refine ⟨w.heap.size, X, by rw [HL.out]; rfl, by rw [HL.out]; exact HR.out, Nat.le_refl _, HB.out, fun i hi => ⟨HFd.out.bits i, fun r hr => ?_⟩⟩
      exact found_end (HFd.out.found r hr) (HS.out (by trivial) r hr) i hi
    · go_wp2_with fail
      obtain ⟨wo, hwo⟩ : ∃ wo : World, wo = wr := ⟨_, rfl⟩
      subst hwo
      obtain ⟨go, hgo⟩ : ∃ go, go = gk := ⟨_, rfl⟩
      subst hgo
      clear HS
      go_loopg [4, 5] len (setIn ms len X w)
      case atStart => exact ⟨X, false, _, rfl, rfl, rfl, Nat.le_refl _, HR, HFd, HB, Lib.hid (fun h => by cases h), Lib.hid (fun _ => ⟨rfl, fun j h1 h2 => absurd h2 (by omega)⟩)⟩
      case round =>
        obtain ⟨Y, cb, z, rfl, rfl, hz, hk, HRy, HFy, HBy, HT1, HT0⟩ := hrel
        rcases gk with _ | j
        · have hz1 : z < 0 := by omega
          clear hz
          have HE := Lib.hid (setIn_end HL.out HRy.out HFy.out HBy.out HT1.out HT0.out)
          go_wp2_with fail
          obtain ⟨q, hq, hr⟩ := HE.out
          go_roundg q
          case measure => have := HG.out; simp at this; omega
          case rel => exact hr
        · obtain rfl : z = (j : Int) := by omega
          clear hz
          obtain ⟨⟨op, dst, a, b', n⟩, hm⟩ : ∃ m, ms[j]? = some m := ⟨ms[j]'(by rw [HL.out]; omega), List.getElem?_eq_getElem _⟩
          have Hm := Lib.hid hm
          have hf := HF.out j _ hm
          have Hf := Lib.hid hf
          have hjl : j < len := by omega
          have HSt : Hid (∀ r, stepB ms r (fun i => (Y i).testBit r) j = _) := Lib.hid fun r => step_next (r := r) (X := fun i => (Y i).testBit r) hm hf HLast.out
          have HIn := Lib.hid (next_in hm hf HLast.out)
          have HRg := Lib.hid (regs_of_fault _ _ hf).2
          clear hm hf
          go_wp2_with fail
          refine (Next_any c len j b off op dst a b' n _ (HT.out.own HBy.out) hjl hl5 ((HC.out j _ Hm.out).below HBy.out hbw)).mono ?_
          rintro e w2 ⟨v2, rfl, ho2, hb2⟩
          have HRy := Lib.hid (row_below HRy.out hb2 HRy.out.lt)
          have HBy := Lib.hid (HBy.out.trans (hb2.mono HBy.out.size))
          have hnl := nextL_len ⟨op, dst, a, b', n⟩ j
          obtain ⟨A2, c2, hv2, hl2, _, hc2⟩ := ho2.ints
          subst hv2
          have HN2 := Lib.hid hc2
          clear ho2 hb2 hc2
          obtain ⟨nl, hnlE⟩ : ∃ nl, nextL ⟨op, dst, a, b', n⟩ j = nl := ⟨_, rfl⟩
          have HNl := Lib.hid hnlE
          rw [hnlE] at HIn HN2 hnl hl2 ⊢
          clear hnlE
          obtain ⟨nn, hnn⟩ : ∃ nn, nl.length = nn := ⟨_, rfl⟩
          have HNn := Lib.hid hnn
          rw [hnn] at HN2 hnl hl2 ⊢
          clear hnn
          go_wp2_with fail
          obtain ⟨wo, hwo⟩ : ∃ wo : World, wo = w2 := ⟨_, rfl⟩
          subst hwo
          go_loop [6, 25] (fun bv qv => ∃ q : Nat, q ≤ nn ∧ qv = .int .i64 q ∧ bv = .int .u64 ((orS Y (nl.take q) : Nat) : Int)) (fun _ qv => nn - (intOf qv).toNat)
          case atStart => exact ⟨0, Nat.zero_le _, rfl, rfl⟩
          case round =>
            obtain ⟨q, hq, rfl, rfl⟩ := hrel
            by_cases hlt : q < nn
            · obtain ⟨k, hk⟩ : ∃ k, nl[q]? = some k := ⟨nl[q]'(by rw [HNn.out]; exact hlt), List.getElem?_eq_getElem _⟩
              obtain ⟨b2, off2, hA2, _, hcc⟩ := HN2.out (by omega)
              subst hA2
              have ck := hcc q k hk
              have ⟨hk0, hk1⟩ := HIn.out k (List.mem_of_getElem? hk)
              rw [HL.out] at hk1
              have cY := HRy.out.cell (show k.toNat < len by omega)
              have hor := or_next HFy.out.bits hk
              have Hk := Lib.hid hk
              clear hk hcc
              go_wp2_with fail
              go_round
              case rel => exact ⟨q + 1, by omega, by go_num, rfl⟩
              case measure => simp [intOf]; omega
            · obtain rfl : q = nn := by omega
              have hub := or_all_bits Y HFy.out.bits (nl.take q)
              rw [List.take_of_length_le (by rw [HNn.out]; exact Nat.le_refl _)] at hub ⊢
              generalize orS Y nl = u at *
              have Hub := Lib.hid hub
              have HRk := Lib.hid (set_reckon ⟨op, dst, a, b', n⟩ HRg.out u hub.1)
              clear hub
              go_upto_region 14 with fail
              go_cut [9] (fun s9 wx => s9 = .int .u64 (setS ⟨op, dst, a, b', n⟩ u : Nat) ∧ Hid (Below wo.heap.size wo wx))
              case first =>
                have HBc := HBy
                have HWc := Lib.hid (Below.refl wo.heap.size wo)
                have ⟨c0, c1, c2, c3, c4⟩ := (HC.out j _ Hm.out).below HBc.out hbw
                have hk0 : (0 : Int) ≤ (j : Int) := Int.natCast_nonneg _
                have hk1 : (j : Int) < (len : Int) := by omega
                have hrk := HRk.out
                go_region_held3 (fun w' => w'.cell? ⟨b, off + j * 5, none⟩ = some (.int .i64 op) ∧ w'.cell? ⟨b, off + j * 5 + 1, none⟩ = some (.int .i64 dst) ∧ w'.cell? ⟨b, off + j * 5 + 2, none⟩ = some (.int .i64 a) ∧ w'.cell? ⟨b, off + j * 5 + 3, none⟩ = some (.int .i64 b') ∧ w'.cell? ⟨b, off + j * 5 + 4, none⟩ = some (.int .i64 n)) (go_keep)
                  (first
                    | (go_at_call 62; refine (reads_any op dst a b' n _ ?_ HRg.out).mono ?_; (first | exact HT.out.own HBc.out | exact HT.out.own (below_drew HBc.out)); rintro e w3 ⟨rfl, hb3⟩; have HWc : Hid (Below wo.heap.size wo w3) := Lib.hid (by first | exact HWc.out.trans (hb3.mono HWc.out.size) | exact (below_drew HWc.out).trans (hb3.mono HWc.out.size)); have HBc : Hid (Below w.heap.size w w3) := Lib.hid (by first | exact HBc.out.trans (hb3.mono HBc.out.size) | exact (below_drew HBc.out).trans (hb3.mono HBc.out.size)); have ⟨c0, c1, c2, c3, c4⟩ := (HC.out j _ Hm.out).below HBc.out hbw; clear hb3)
                    | (go_at_call 63; refine (writes_any op dst a b' n _ ?_ HRg.out).mono ?_; (first | exact HT.out.own HBc.out | exact HT.out.own (below_drew HBc.out)); rintro e w3 ⟨rfl, hb3⟩; have HWc : Hid (Below wo.heap.size wo w3) := Lib.hid (by first | exact HWc.out.trans (hb3.mono HWc.out.size) | exact (below_drew HWc.out).trans (hb3.mono HWc.out.size)); have HBc : Hid (Below w.heap.size w w3) := Lib.hid (by first | exact HBc.out.trans (hb3.mono HBc.out.size) | exact (below_drew HBc.out).trans (hb3.mono HBc.out.size)); have ⟨c0, c1, c2, c3, c4⟩ := (HC.out j _ Hm.out).below HBc.out hbw; clear hb3))
                all_goals
                  go_wp2_with fail
                  go_meet
                  first | exact ⟨rfl, HWc⟩ | exact ⟨rfl, Lib.hid (below_drew HWc.out)⟩
              case rest =>
                obtain ⟨rfl, HW⟩ := hcut
                have HRy := Lib.hid (row_below HRy.out HW.out HRy.out.lt)
                have HBy := Lib.hid (HBy.out.trans (HW.out.mono HBy.out.size))
                have ⟨sb1, sb2⟩ := set_bits ⟨op, dst, a, b', n⟩ HRg.out u Hub.out.1
                have HSb : Hid (Bits16 (setS ⟨op, dst, a, b', n⟩ u) ∧ ∀ r, r < 16 → (setS ⟨op, dst, a, b', n⟩ u).testBit r = stepB ms r (fun i => (Y i).testBit r) j) := Lib.hid ⟨sb1, fun r hr => by rw [sb2 r hr, HSt.out r, HNl.out, Hub.out.2 r]⟩
                clear sb1 sb2 HRk HW
                generalize setS ⟨op, dst, a, b', n⟩ u = s at *
                have cy := HRy.out.cell hjl
                have fy := HRy.out.frozen j
                by_cases hne : s = Y j
                · have hb1 : ((s : Int) != (Y j : Int)) = false := by simp [hne]
                  have Hne := Lib.hid hne
                  clear hne
                  go_wp2_with fail
                  go_roundg j
                  case measure => omega
                  case rel => exact setIn_skip hjl HRy.out HFy.out HBy.out HT1.out HT0.out Hne.out HSb.out.2
                · have hb1 : ((s : Int) != (Y j : Int)) = true := by simp; omega
                  have Hne := Lib.hid hne
                  clear hne
                  go_wp2_with fail
                  go_roundg j
                  case measure => omega
                  case rel => exact setIn_store HL.out hjl HRy.out HFy.out HBy.out HT1.out HT0.out Hne.out HSb.out.1 HSb.out.2
end Go.Proofs.YtkiaffaieniebaaDoor
namespace Go.Proofs.YtkiaffaieniebaaDoor
open Go.RowKit

theorem infoRow : (Tryd.prog.info? 26).map (fun i => (i.zero, i.size, i.bytes)) = some (some (.slice none 0 0), 1, 24) := by kernel_rfl
/-- The slice value v reads as lists of numbers, below block B. -/
def RowsAt (w : World) (B : Nat) (v : Value) (xss : List (List Int)) : Prop :=
  ∃ (A : Option Addr) (c : Nat), v = .slice A xss.length c ∧ xss.length ≤ c ∧ c ≤ 9223372036854775807 ∧
    (0 < xss.length → ∃ b off, A = some ⟨b, off, none⟩ ∧ b < B ∧ ∀ (k : Nat) (xs : List Int), xss[k]? = some xs → ∃ r, w.cell? ⟨b, off + k, none⟩ = some r ∧ IntsAt w B r xs)
theorem RowsAt.below {W w1 : World} {B B' : Nat} {v : Value} {xss : List (List Int)} (h : RowsAt W B v xss) (hb : Below B' W w1) (hB : B ≤ B') : RowsAt w1 B v xss := by
  obtain ⟨A, c, e, h1, h2, h3⟩ := h
  refine ⟨A, c, e, h1, h2, fun hl => ?_⟩
  obtain ⟨b, off, e1, e2, e3⟩ := h3 hl
  refine ⟨b, off, e1, e2, fun k m hk => ?_⟩
  obtain ⟨r, hr, hi⟩ := e3 k m hk
  exact ⟨r, (bcell hb (Nat.lt_of_lt_of_le e2 hB)).trans hr, hi.below hb hB⟩
theorem RowsAt.more {w : World} {B B' : Nat} {v : Value} {xss : List (List Int)} (h : RowsAt w B v xss) (hB : B ≤ B') : RowsAt w B' v xss := by
  obtain ⟨A, c, e, h1, h2, h3⟩ := h
  refine ⟨A, c, e, h1, h2, fun hl => ?_⟩
  obtain ⟨b, off, e1, e2, e3⟩ := h3 hl
  refine ⟨b, off, e1, by omega, fun k m hk => ?_⟩
  obtain ⟨r, hr, hi⟩ := e3 k m hk
  exact ⟨r, hr, hi.more hB⟩
theorem RowsAt.nil (w : World) (B : Nat) : RowsAt w B (.slice none 0 0) [] := ⟨none, 0, rfl, by simp, by omega, fun h => by simp at h⟩
/-- Rows of different element types lie in different blocks. -/
theorem own_apart {w : World} {base base' : Nat} {e e' : TypeId} {size size' n n' : Nat} {v v' : Value} {xs xs' : List Value} (h : w.ownsRow base e size v n xs) (h' : w.ownsRow base' e' size' v' n' xs') (hne : e ≠ e') : ∀ k, v.ownBlock = some k → v'.ownBlock ≠ some k := by
  intro k hk hk'
  rcases h.2 with ⟨rfl, _⟩ | ⟨g, cap, cur, rfl, _, hg, _⟩
  · simp [Value.ownBlock] at hk
  rcases h'.2 with ⟨rfl, _⟩ | ⟨g', cap', cur', rfl, _, hg', _⟩
  · simp [Value.ownBlock] at hk'
  simp only [Value.ownBlock, Option.some.injEq] at hk hk'
  subst hk
  subst hk'
  rw [hg] at hg'
  simp only [Option.some.injEq, Obj.cells.injEq] at hg'
  exact hne hg'.2.1
/-- The call owns the slice v, which reads as lists of numbers, whose rows it owns, too. -/
def RowsOwn (w : World) (base : Nat) (v : Value) (xss : List (List Int)) : Prop :=
  ∃ rs : List Value, rs.length = xss.length ∧ w.ownsRow base 26 1 v rs.length rs ∧ ∀ (i : Nat) (r : Value) (xs : List Int), rs[i]? = some r → xss[i]? = some xs → OwnInts w base r xs
theorem RowsOwn.nil (w : World) (base : Nat) : RowsOwn w base (.slice none 0 0) [] := ⟨[], rfl, World.ownsRow_nil _ _ _ _, fun i r xs h _ => by simp at h⟩
theorem RowsOwn.below {w w' : World} {base B : Nat} {v : Value} {xss : List (List Int)} (h : RowsOwn w base v xss) (hb : Below B w w') (hB : B = w.heap.size) : RowsOwn w' base v xss := by
  obtain ⟨rs, h1, h2, h3⟩ := h
  refine ⟨rs, h1, ?_, fun i r xs hr hx => (h3 i r xs hr hx).below hb hB⟩
  refine World.ownsRow.kept (row := none) h2 ⟨hb.os, hb.tape, hb.output, hb.size, fun k hk _ => hb.block k (by omega)⟩ ?_
  cases v.ownBlock <;> simp
theorem RowsOwn.rows {w : World} {base : Nat} {v : Value} {xss : List (List Int)} (h : RowsOwn w base v xss) : RowsAt w w.heap.size v xss := by
  obtain ⟨rs, h1, h2, h3⟩ := h
  rcases h2.2 with ⟨rfl, hn⟩ | ⟨g, cap, cur, rfl, _, hgg, hnc, hcm, _, _⟩
  · have : xss = [] := List.eq_nil_of_length_eq_zero (by omega)
    subst this
    exact RowsAt.nil _ _
  · refine ⟨some ⟨g, 0, none⟩, cap, by rw [h1], by omega, by unfold maxLen at hcm; omega, fun _ => ⟨g, 0, rfl, (World.ownsRow.lt h2 g rfl).2, fun k xs hk => ?_⟩⟩
    have hkl : k < rs.length := by have := (List.getElem?_eq_some_iff.1 hk).1; omega
    have hc := World.ownsRow.cells h2 (g := g) rfl k rs[k] (List.getElem?_eq_getElem hkl)
    have e : (⟨g, 0, none⟩ : Addr).add k = ⟨g, 0 + k, none⟩ := by
      unfold Addr.add
      split <;> simp_all
    rw [e] at hc
    exact ⟨_, hc, (h3 k _ xs (List.getElem?_eq_getElem hkl) hk).ints⟩
theorem own_oneCell {w : World} {base : Nat} {v : Value} {xs : List Int} (h : OwnInts w base v xs) : v.oneCell' = true := by
  obtain ⟨A, c, rfl⟩ := own_form h
  rfl
theorem RowsOwn.snoc {w w' : World} {base : Nat} {v v' r : Value} {xss : List (List Int)} {xs : List Int} {rs : List Value} {H : Nat} (h1 : rs.length = xss.length) (h2 : w.ownsRow base 26 1 v rs.length rs)
    (h3 : ∀ (i : Nat) (r : Value) (xs : List Int), rs[i]? = some r → xss[i]? = some xs → OwnInts w base r xs) (hr : OwnInts w base r xs) (ha : Appended w base 26 1 v (rs.length + 1) (rs ++ [r]) H v' w') : RowsOwn w' base v' (xss ++ [xs]) := by
  have keep : ∀ (q : Value) (ys : List Int), OwnInts w base q ys → OwnInts w' base q ys := fun q ys hq =>
    ha.row (v0 := q) hq fun k hk => own_apart (e' := 26) hq h2 (by decide) k hk
  refine ⟨rs ++ [r], by simp [h1], by rw [List.length_append]; exact ha.own, fun i q ys hq hy => ?_⟩
  rcases Nat.lt_or_ge i rs.length with hi | hi
  · rw [List.getElem?_append_left hi] at hq
    rw [List.getElem?_append_left (by omega)] at hy
    exact keep q ys (h3 i q ys hq hy)
  · rw [List.getElem?_append_right hi] at hq
    rw [List.getElem?_append_right (by omega)] at hy
    rcases Nat.eq_or_lt_of_le hi with he | he
    · rw [← he, Nat.sub_self] at hq
      rw [← he, h1, Nat.sub_self] at hy
      simp only [List.getElem?_cons_zero, Option.some.injEq] at hq hy
      subst hq
      subst hy
      exact keep _ _ hr
    · rw [List.getElem?_eq_none (by simp; omega)] at hq
      cases hq

/-- What a function that tells live registers comes to. -/
def RowsPost (w : World) (f : Int × Int) (xss : List (List Int)) (e : Ending) (w' : World) : Prop :=
  ∃ v, e = .returned (.tuple #[v, .agg #[.int .i64 f.1, .int .i64 f.2]]) ∧ RowsAt w' w'.heap.size v xss ∧ Below w.heap.size w w'
/-- The live registers, ahead of each instruction. -/
noncomputable def liveTo (ms : List Mac) (k : Nat) : List (List Int) := (List.range k).map fun i => listP (fun r => liveB ms r i) 16
noncomputable def liveL (ms : List Mac) : List (List Int) := if (checkS ms).1 = 0 then liveTo ms ms.length else []
theorem liveTo_succ (ms : List Mac) (k : Nat) : liveTo ms (k + 1) = liveTo ms k ++ [listP (fun r => liveB ms r k) 16] := by
  unfold liveTo
  rw [List.range_succ, List.map_append]
  rfl
theorem liveTo_len (ms : List Mac) (k : Nat) : (liveTo ms k).length = k := by unfold liveTo; simp
theorem RowsOwn.set {w : World} {base : Nat} {v : Value} {xss : List (List Int)} (h : RowsOwn w base v xss) {b o : Nat} (hb : b < base) (u : Value) : RowsOwn (w.setCell ⟨b, o, none⟩ u) base v xss := by
  obtain ⟨rs, h1, h2, h3⟩ := h
  exact ⟨rs, h1, ownsRow_setCell_below (a := ⟨b, o, none⟩) h2 hb u, fun i r xs hr hx => (h3 i r xs hr hx).set hb u⟩

set_option maxRecDepth 100000 in
set_option maxHeartbeats 2000000 in
theorem Live_any (v : Value) (ms : List Mac) (w : World) (hv : MacsAt w w.heap.size v ms) (ht : Tab w) :
    Calls Tryd.prog 29 #[v] w (RowsPost w (checkS ms) (liveL ms)) := by
  have HV := Lib.hid hv
  have HT := Lib.hid ht
  have hA : Below w.heap.size w (w.alloc (.cells #[.int .i64 0, .int .i64 0] 30)) := (Below.refl _ _).alloc (Nat.le_refl _) _
  have HC := Lib.hid (Check_any v ms (w.alloc (.cells #[.int .i64 0, .int .i64 0] 30)) ((HV.out.below hA (Nat.le_refl _)).more (by simp)) (HT.out.own hA))
  clear hv ht hA
  by_cases hf : (checkS ms).1 = 0
  · have hf0 : ((checkS ms).1 != 0) = false := by simp [hf]
    have Hf := Lib.hid hf
    have HZ : Hid (checkS ms = (0, 0)) := Lib.hid (check_zero hf)
    have hl5 := ((code_ok_iff ms).1 hf).1
    clear hf
    go_enter Tryd.func29, Tryd.ntmps29
    go_wp2_with fail
    refine HC.out.mono ?_
    rintro e w1 ⟨rfl, hb1⟩
    have hz : w.heap.size < w1.heap.size := by have := hb1.size; simp at this; omega
    have h0 := (Blk.new w 30 #[.int .i64 0, .int .i64 0]).below hb1 (by simp)
    have HK1 := Lib.hid (h0.alloc (.cells #[.int .i64 (checkS ms).1, .int .i64 (checkS ms).2] 30))
    have HB1 : Hid (Below w.heap.size w (w1.alloc (.cells #[.int .i64 (checkS ms).1, .int .i64 (checkS ms).2] 30))) := Lib.hid ((((Below.refl _ _).alloc (Nat.le_refl _) _).trans (hb1.mono (by simp))).alloc (by omega) _)
    clear hb1 h0
    go_wp2_with fail
    generalize w1.alloc (.cells #[.int .i64 (checkS ms).1, .int .i64 (checkS ms).2] 30) = W1 at *
    refine (live_any v ms _ ((HV.out.below HB1.out (Nat.le_refl _)).more HB1.out.size) (HT.out.own HB1.out) Hf.out).mono ?_
    rintro e w2 ⟨g, S, rfl, hrow, hg, hb2, hS⟩
    have hz2 : w.heap.size < W1.heap.size := HK1.out.lt
    have HK2 := Lib.hid (HK1.out.below hb2 HK1.out.lt)
    have HB2 := Lib.hid (HB1.out.trans (hb2.mono HB1.out.size))
    have HRow := Lib.hid hrow
    have HS := Lib.hid hS
    have hgl := hrow.lt
    clear hb2 hrow hS
    obtain ⟨len, hlen⟩ : ∃ len, ms.length = len := ⟨_, rfl⟩
    have HL := Lib.hid hlen
    rw [hlen] at HRow HS hl5 ⊢
    clear hlen
    go_wp2_with fail
    go_loopw [5, 17] (fun v i wr => ∃ k : Nat, k ≤ len ∧ i = .int .i64 k ∧ Hid (Below w2.heap.size w2 wr) ∧ Hid (RowsOwn wr w2.heap.size v (liveTo ms k))) (fun _ i _ => len - (intOf i).toNat)
    case atStart => exact ⟨0, Nat.zero_le _, rfl, Lib.hid (Below.refl _ _), Lib.hid (RowsOwn.nil _ _)⟩
    case round =>
      obtain ⟨k, hk, rfl, HB, HO⟩ := hrel
      by_cases hlt : k < len
      · have cs := (row_below HRow.out HB.out hgl).cell hlt
        have hbits := HS.out k hlt
        have HBi := Lib.hid hbits
        have hzr := HB.out.size
        clear hbits
        go_wp2_with fail
        refine (list_any (S k) HBi.out.1 _).mono ?_
        rintro e w3 ⟨r, rfl, ho3, hb3⟩
        obtain ⟨Ar, cr, hre⟩ := own_form ho3
        subst hre
        obtain ⟨rs, hr1, hr2, hr3⟩ := HO.out.below hb3 rfl
        have HR2 := Lib.hid hr2
        have HR3 := Lib.hid (And.intro hr1 hr3)
        have HO3 := Lib.hid (ho3.more hzr)
        have HB3 := Lib.hid (HB.out.trans (hb3.mono hzr))
        have hz3 : w2.heap.size ≤ w3.heap.size := HB3.out.size
        have hrl : rs.length ≤ 5000 := by rw [hr1, liveTo_len]; omega
        clear hb3 ho3 hr1 hr2 hr3 cs
        go_wp2_with (at_builtin; refine app_one rfl _ _ 41 26 rfl (.slice none 0 0) 1 24 Tryd.underlying41 infoRow rfl (by decide) (by decide) w2.heap.size u5 _ _ (by rfl) HR2.out _ [.slice Ar _ cr] (by rfl) rfl (fun x hx => by simp at hx; subst hx; exact own_oneCell HO3.out) rfl (by omega) hz3 ?_; intro v4 w4 HA4)
        go_roundw
        case rel =>
          refine ⟨k + 1, by omega, by go_num, Lib.hid (HB3.out.trans HA4.out.below), Lib.hid ?_⟩
          rw [liveTo_succ, ← bitsTo_eq HBi.out]
          exact RowsOwn.snoc HR3.out.1 HR2.out HR3.out.2 HO3.out HA4.out
        case measure => simp [intOf]; omega
      · obtain rfl : k = len := by omega
        have hk2 := HK2.out.below HB.out (by have := HK2.out.lt; omega)
        have r0 := hk2.cell 0
        have r1 := hk2.cell 1
        have f0 := hk2.frozen 0
        have f1 := hk2.frozen 1
        have HK3 := Lib.hid hk2
        have HB3 := Lib.hid (HB2.out.trans (HB.out.mono HB2.out.size))
        have hlt2 := HK2.out.lt
        clear hk2
        go_wp2_with fail
        refine end_tmp_cell rfl rfl (HK3.out.set2 _ _) Tryd.underlying30 rfl (by kernel_rfl) rfl ⟨_, by rw [HZ.out], ?_, (HB3.out.setCell (Nat.le_refl _) _).setCell (Nat.le_refl _) _⟩
        unfold liveL
        rw [if_pos Hf.out, HL.out]
        exact ((HO.out.set hlt2 _).set hlt2 _).rows
  · have hf0 : ((checkS ms).1 != 0) = true := by simp [hf]
    have HL : Hid (liveL ms = []) := Lib.hid (by unfold liveL; rw [if_neg hf])
    clear hf
    go_enter Tryd.func29, Tryd.ntmps29
    go_wp2_with fail
    refine HC.out.mono ?_
    rintro e w1 ⟨rfl, hb1⟩
    have hz : w.heap.size < w1.heap.size := by have := hb1.size; simp at this; omega
    have h0 := (Blk.new w 30 #[.int .i64 0, .int .i64 0]).below hb1 (by simp)
    have r0 := h0.cell 0
    have r1 := h0.cell 1
    have f0 := h0.frozen 0
    have f1 := h0.frozen 1
    have HB1 : Hid (Below w.heap.size w w1) := Lib.hid (((Below.refl _ _).alloc (Nat.le_refl _) _).trans (hb1.mono (by simp)))
    have HK1 := Lib.hid h0
    clear hb1 h0
    go_wp2_with fail
    go_region
    all_goals
      go_wp2_with fail
      refine end_tmp_cell rfl rfl (Blk.alloc (HK1.out.set2 _ _) _) Tryd.underlying30 rfl (by kernel_rfl) rfl ⟨_, rfl, ?_, below_drew (Below.alloc (((HB1.out.setCell (by simp) _).setCell (by simp) _)) (by simp; omega) _)⟩
      rw [HL.out]
      exact RowsAt.nil _ _
end Go.Proofs.YtkiaffaieniebaaDoor
