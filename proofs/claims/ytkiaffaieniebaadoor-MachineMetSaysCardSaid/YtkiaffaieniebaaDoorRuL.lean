/-
  Several texts in one (RuQ RuL): what each proves stands at its theorems.
  Conditions: as the theorems say.
-/
import Derived.Test.YtkiaffaieniebaaDoorRuG
import Derived.Test.YtkiaffaieniebaaDoorMcZ
namespace Go.Proofs.YtkiaffaieniebaaDoor
open Go.RowKit

theorem firstBad_zero {bad : Nat → Int} {n : Nat} (h : (firstBad bad n).1 = 0) : ∀ j, j < n → bad j = 0 := by
  intro j hj
  unfold firstBad at h
  cases hf : (List.range n).find? (fun i => bad i != 0) with
  | none =>
    rw [List.find?_eq_none] at hf
    simpa using hf j (by simpa using hj)
  | some i =>
    rw [hf] at h
    have := List.find?_some hf
    simp only at h
    simp [h] at this
theorem machF_zero {gs : List Glob} {rs : List Rout} (h : (machF gs rs).1 = 0) : (globF gs).1 = 0 ∧ 0 < rs.length ∧ rs.length ≤ 40 ∧ ∀ j, j < rs.length → rBadAt gs rs j = 0 := by
  unfold machF at h
  split at h
  · rename_i h1
    exact absurd h h1
  split at h
  · cases h
  split at h
  · cases h
  · rename_i h1 h2 h3
    exact ⟨by simpa using h1, by omega, by omega, firstBad_zero h⟩
theorem sh_word (op : Int) (h : op = 35 ∨ op = 36) : shK op = 3 := by rcases h with rfl | rfl <;> rfl
theorem sh_targ (op : Int) (h : 37 ≤ op ∧ op ≤ 43) : shK op = 2 := by
  obtain rfl | rfl | rfl | rfl | rfl | rfl | rfl : op = 37 ∨ op = 38 ∨ op = 39 ∨ op = 40 ∨ op = 41 ∨ op = 42 ∨ op = 43 := by omega
  all_goals rfl
theorem sh_call : shK 44 = 4 := rfl
theorem goodM_of {m : Mac} {len rts : Nat} (h : faultS m (len : Int) = 0) (hf : farB rts m = false) : GoodM m len rts := by
  obtain ⟨ho, ⟨r1, r2, r3⟩, z1, z2, z3, hn⟩ := (fault_zero m _).1 h
  rw [isOp_iff] at ho
  refine ⟨ho.1, ho.2, ?_, ?_, ?_, ?_, ?_, ?_, fun hw => ?_, fun ht => ?_, fun hr => ?_⟩
  · cases e : shD m.op
    · rw [z1 e]; omega
    · exact (r1 e).1
  · cases e : shD m.op
    · rw [z1 e]; omega
    · exact (r1 e).2
  · cases e : shA m.op
    · rw [z2 e]; omega
    · exact (r2 e).1
  · cases e : shA m.op
    · rw [z2 e]; omega
    · exact (r2 e).2
  · cases e : shB m.op
    · rw [z3 e]; omega
    · exact (r3 e).1
  · cases e : shB m.op
    · rw [z3 e]; omega
    · exact (r3 e).2
  · rw [sh_word _ hw] at hn
    unfold numberS at hn
    simp at hn
    omega
  · rw [sh_targ _ ht] at hn
    unfold numberS at hn
    simp at hn
    omega
  · rw [hr, sh_call] at hn
    unfold numberS at hn
    simp at hn
    refine ⟨hn, ?_⟩
    unfold farB at hf
    rw [hr] at hf
    simp at hf
    omega
theorem goodL_of {ms : List Mac} {rts : Nat} (h : (checkS ms).1 = 0) (hf : ms.any (farB rts) = false) : GoodL ms rts := by
  obtain ⟨h1, h2, h3⟩ := (code_ok_iff ms).1 h
  refine ⟨h1, fun j m hm => goodM_of (h2 j m hm) ?_, h3⟩
  rw [List.any_eq_false] at hf
  simpa using hf m (List.mem_of_getElem? hm)
theorem rBad_zero {gs : List Glob} {rs : List Rout} {j : Nat} {r : Rout} (hr : rs[j]? = some r) (h : rBadAt gs rs j = 0) : (readL r.code).1.1 = 0 ∧ (readL r.code).2.any (farB rs.length) = false := by
  unfold rBadAt at h
  rw [hr] at h
  simp only at h
  unfold rBad at h
  split at h
  · cases h
  split at h
  · cases h
  split at h
  · cases h
  split at h
  · cases h
  · rename_i h3 h4
    exact ⟨by simpa using h3, by simpa using h4⟩
theorem goodC_of {gs : List Glob} {rs : List Rout} (hro : ROk rs) (h : (machF gs rs).1 = 0) : GoodC (imgCodes rs) := by
  obtain ⟨_, _, _, hb⟩ := machF_zero h
  intro r ms hr
  unfold imgCodes at hr ⊢
  rw [List.getElem?_map] at hr
  rw [List.length_map]
  cases hx : rs[r]? with
  | none => rw [hx] at hr; cases hr
  | some x =>
    rw [hx] at hr
    simp only [Option.map_some, Option.some.injEq] at hr
    subst hr
    obtain ⟨h1, h2⟩ := rBad_zero hx (hb r (List.getElem?_eq_some_iff.1 hx).1)
    exact goodL_of (readL_back (hro x (List.mem_of_getElem? hx)).2 h1).2.1 h2
theorem imgCodes_len (rs : List Rout) : (imgCodes rs).length = rs.length := by unfold imgCodes; rw [List.length_map]

def wordsG (g : Glob) : List Int := g.init ++ List.replicate (g.size.toNat - g.init.length) 0
/-- The memory of a run. -/
def memS (gs : List Glob) : List Int := (gs.map wordsG).flatten
theorem memS_snoc (gs : List Glob) (k : Nat) (g : Glob) (h : gs[k]? = some g) : memS (gs.take (k + 1)) = memS (gs.take k) ++ wordsG g := by
  unfold memS
  have hlt := (List.getElem?_eq_some_iff.1 h).1
  rw [List.take_succ_eq_append_getElem hlt, (List.getElem?_eq_some_iff.1 h).2, List.map_append, List.flatten_append]
  simp
structure GoodG (gs : List Glob) (k : Nat) (g : Glob) : Prop where
  lo : 1 ≤ g.size
  hi : g.size ≤ 200
  init : (g.init.length : Int) ≤ g.size
  sum : sumG (gs.take k) + g.size ≤ 200
theorem glob_good {gs : List Glob} (h : (globF gs).1 = 0) : gs.length ≤ 10 ∧ ∀ (k : Nat) (g : Glob), gs[k]? = some g → GoodG gs k g := by
  unfold globF at h
  split at h
  · cases h
  · refine ⟨by omega, fun k g hk => ?_⟩
    have hb := firstBad_zero h k (List.getElem?_eq_some_iff.1 hk).1
    unfold gBadAt at hb
    rw [hk] at hb
    simp only at hb
    unfold gBad at hb
    split at hb
    · cases hb
    split at hb
    · cases hb
    split at hb
    · cases hb
    split at hb
    · cases hb
    split at hb
    · cases hb
    · rename_i h3 h4 h5
      have h3' : 1 ≤ g.size ∧ g.size ≤ 200 := by simpa using h3
      exact ⟨h3'.1, h3'.2, by omega, by omega⟩
theorem memS_len {gs : List Glob} (h : (globF gs).1 = 0) : ∀ k, k ≤ gs.length → ((memS (gs.take k)).length : Int) = sumG (gs.take k) ∧ sumG (gs.take k) ≤ 200 := by
  intro k
  induction k with
  | zero => intro _; simp [memS, sumG]
  | succ k ih =>
    intro hk
    obtain ⟨i1, i2⟩ := ih (by omega)
    have hg : gs[k]? = some (gs[k]'(by omega)) := List.getElem?_eq_getElem _
    have hG := (glob_good h).2 k _ hg
    have g1 := hG.lo
    have g2 := hG.init
    have g3 := hG.sum
    rw [memS_snoc _ _ _ hg, sumG_snoc _ _ _ hg, List.length_append]
    unfold wordsG
    rw [List.length_append, List.length_replicate]
    omega
theorem memS_small {gs : List Glob} (h : (globF gs).1 = 0) : (memS gs).length ≤ 200 := by
  have := memS_len h gs.length (Nat.le_refl _)
  rw [List.take_length] at this
  omega

/-- The fault of running an image. -/
def runF (gs : List Glob) (rs : List Rout) (inp : List Int) (fuel : Int) : Int × Int :=
  if (machF gs rs).1 ≠ 0 then machF gs rs else if fuel < 0 ∨ 900000 < fuel then (3, -1) else if 30 < inp.length then (2, -1) else (0, 0)
def zeroM : Mch := startS [] []
def beginS (gs : List Glob) (inp : List Int) : Mch := startS (memS gs) inp
/-- What running an image comes to. -/
def runO (gs : List Glob) (rs : List Rout) (inp : List Int) (fuel : Int) : Mch :=
  if (runF gs rs inp fuel).1 ≠ 0 then zeroM else (runS (imgCodes rs) (beginS gs inp) fuel.toNat).told
def runL (gs : List Glob) (rs : List Rout) (inp : List Int) (fuel : Int) : List (List Mac) := if (runF gs rs inp fuel).1 ≠ 0 then [] else imgCodes rs
def runT (gs : List Glob) (rs : List Rout) (inp : List Int) (fuel : Int) : List (Nat × Nat) :=
  if (runF gs rs inp fuel).1 ≠ 0 then [] else metS (imgCodes rs) (beginS gs inp) fuel.toNat
theorem good_begin {gs : List Glob} {rs : List Rout} {inp : List Int} (hro : ROk rs) (h : (machF gs rs).1 = 0) (hi : inp.length ≤ 30) : GoodS (imgCodes rs) (beginS gs inp) :=
  good_start (goodC_of hro h) (by rw [imgCodes_len]; exact (machF_zero h).2.1) (memS_small (machF_zero h).1) hi
/-- A run stays where it is over. -/
theorem run_over {codes : List (List Mac)} {s : Mch} {k : Nat} (h : (runS codes s k).over = true) : ∀ n, k ≤ n → runS codes s n = runS codes s k ∧ metS codes s n = metS codes s k := by
  intro n hn
  induction n with
  | zero =>
    obtain rfl : k = 0 := by omega
    exact ⟨rfl, rfl⟩
  | succ n ih =>
    rcases Nat.lt_or_ge n k with h1 | h1
    · obtain rfl : k = n + 1 := by omega
      exact ⟨rfl, rfl⟩
    · obtain ⟨e1, e2⟩ := ih h1
      constructor
      · show (if _ then _ else _) = _
        rw [e1, if_pos h]
      · show (if _ then _ else _) = _
        rw [e1, if_pos h, e2]
theorem run_succ {codes : List (List Mac)} {s : Mch} {k : Nat} (h : (runS codes s k).over = false) : runS codes s (k + 1) = stepS codes (runS codes s k) ∧ metS codes s (k + 1) = metS codes s k ++ [(runS codes s k).pos] := by
  constructor
  · show (if _ then _ else _) = _
    rw [if_neg (by rw [h]; simp)]
  · show (if _ then _ else _) = _
    rw [if_neg (by rw [h]; simp)]
/-- So long as it is not over, a run has done as many steps as it was asked for. -/
theorem run_steps {codes : List (List Mac)} {s : Mch} (hc : GoodC codes) (hg : GoodS codes s) (h0 : s.steps = 0) : ∀ k, (runS codes s k).steps ≤ k ∧ ((runS codes s k).over = false → (runS codes s k).steps = k)
  | 0 => ⟨by show s.steps ≤ 0; omega, fun _ => h0⟩
  | k + 1 => by
    obtain ⟨h1, h2⟩ := run_steps hc hg h0 k
    cases ho : (runS codes s k).over
    · rw [(run_succ ho).1, step_steps (good_run hc hg k) ho]
      exact ⟨by omega, fun _ => by rw [h2 ho]⟩
    · rw [(run_over ho (k + 1) (by omega)).1]
      exact ⟨by omega, fun h => by rw [ho] at h; cases h⟩
end Go.Proofs.YtkiaffaieniebaaDoor
namespace Go.Proofs.YtkiaffaieniebaaDoor
open Go.RowKit

theorem run_go {codes : List (List Mac)} {s : Mch} {k : Nat} {t : Mch} (h : runS codes s k = t) (ho : t.over = false) : runS codes s (k + 1) = stepS codes t := by
  rw [(run_succ (by rw [h]; exact ho)).1, h]
def loopC : List Mac := [⟨46, 1, 0, 0, 0⟩, ⟨43, 0, 1, 2, 6⟩, ⟨47, 0, 2, 0, 0⟩, ⟨5, 0, 0, 2, 0⟩, ⟨19, 2, 2, 0, 1⟩, ⟨37, 0, 0, 0, 1⟩, ⟨45, 0, 0, 0, 0⟩]
/-- The loop's state ahead of its test, after i rounds. -/
def loopAt (mem : List Int) (k : Int) (i : Nat) (s : Int) (pc st : Nat) (out : List Int) : Mch :=
  ⟨[s, k, i, 0, 0, 0, 0, 0, 0, 0, 0, 0, 0, 0, 0, 0], mem, [⟨0, pc, List.replicate 120 0⟩], [], out, st, 0, 0, false⟩
def sumTo (i : Nat) : Int := ((List.range i).map fun (j : Nat) => (j : Int)).foldl (· + ·) 0
def outTo (i : Nat) : List Int := (List.range i).map fun (j : Nat) => (j : Int)
theorem sumTo_succ (i : Nat) : sumTo (i + 1) = sumTo i + i := by unfold sumTo; rw [List.range_succ, List.map_append, List.foldl_append]; rfl
theorem sumTo_twice (i : Nat) : 2 * sumTo i = (i : Int) * ((i : Int) - 1) := by
  induction i with
  | zero => rfl
  | succ i ih =>
    rw [sumTo_succ, Int.mul_add, ih]
    have : ((i + 1 : Nat) : Int) = (i : Int) + 1 := by omega
    rw [this]
    have e : (i : Int) + 1 - 1 = i := by omega
    rw [e, Int.mul_sub, Int.add_mul]
    omega
theorem sumTo_pos (i : Nat) : 0 ≤ sumTo i ∧ sumTo i ≤ (i : Int) * (i : Int) := by
  induction i with
  | zero => exact ⟨by decide, by decide⟩
  | succ i ih =>
    rw [sumTo_succ]
    have : ((i + 1 : Nat) : Int) = (i : Int) + 1 := by omega
    rw [this, Int.add_mul, Int.mul_add]
    omega
theorem outTo_succ (i : Nat) : outTo (i + 1) = outTo i ++ [(i : Int)] := by unfold outTo; rw [List.range_succ, List.map_append]; rfl
section
variable {mem : List Int} {k : Int} {i st : Nat} {s : Int} {out : List Int}
theorem loop_test (h : (i : Int) < k) : stepS [loopC] (loopAt mem k i s 1 st out) = loopAt mem k i s 2 (st + 1) out := by
  have : ¬ k ≤ (i : Int) := by omega
  simp [stepS, loopAt, doS, macAt, loopC, goesS, Mch.reg, Mch.begun, Fr.next, this]
theorem loop_last (h : k ≤ (i : Int)) : stepS [loopC] (loopAt mem k i s 1 st out) = loopAt mem k i s 6 (st + 1) out := by
  simp [stepS, loopAt, doS, macAt, loopC, goesS, Mch.reg, Mch.begun, Fr.next, h]
theorem loop_print (h : out.length ≠ 200) : stepS [loopC] (loopAt mem k i s 2 st out) = loopAt mem k i s 3 (st + 1) (out ++ [(i : Int)]) := by
  simp [stepS, loopAt, doS, macAt, loopC, speaksS, printS, Mch.reg, Mch.begun, Fr.next, h]
theorem loop_add (h : wrap64 (s + i) = s + i) : stepS [loopC] (loopAt mem k i s 3 st out) = loopAt mem k i (s + i) 4 (st + 1) out := by
  simp [stepS, loopAt, doS, macAt, loopC, reckS, twoS, Mch.set, Mch.reg, Mch.begun, Fr.next, h]
theorem loop_next (h : wrap64 ((i : Int) + 1) = (i : Int) + 1) : stepS [loopC] (loopAt mem k i s 4 st out) = loopAt mem k (i + 1) s 5 (st + 1) out := by
  simp [stepS, loopAt, doS, macAt, loopC, reckS, twoS, Mch.set, Mch.reg, Mch.begun, Fr.next, h]
theorem loop_back : stepS [loopC] (loopAt mem k i s 5 st out) = loopAt mem k i s 1 (st + 1) out := by
  simp [stepS, loopAt, doS, macAt, loopC, goesS, Mch.begun, Fr.next]
theorem loop_done : stepS [loopC] (loopAt mem k i s 6 st out) = ⟨[s, k, i, 0, 0, 0, 0, 0, 0, 0, 0, 0, 0, 0, 0, 0], mem, [], [], out, st + 1, 0, s, true⟩ := by
  simp [stepS, loopAt, doS, macAt, loopC, speaksS, retS, Mch.reg, Mch.begun]
theorem loop_read : stepS [loopC] (startS mem [k]) = loopAt mem k 0 0 1 1 [] := by
  simp [stepS, loopAt, doS, macAt, loopC, speaksS, readM, startS, Mch.begun, Fr.next, List.replicate_succ]
end
theorem loop_rounds (mem : List Int) (k : Nat) (hk : k < 60) : ∀ i, i ≤ k → runS [loopC] (startS mem [(k : Int)]) (5 * i + 1) = loopAt mem k i (sumTo i) 1 (5 * i + 1) (outTo i) := by
  intro i
  induction i with
  | zero => intro _; exact (run_go (k := 0) rfl rfl).trans loop_read
  | succ i ih =>
    intro hi
    have h0 := ih (by omega)
    obtain ⟨p1, p2⟩ := sumTo_pos i
    have p3 : (i : Int) * (i : Int) ≤ 60 * 60 := Int.mul_le_mul (by omega) (by omega) (by omega) (by omega)
    have hw1 : wrap64 (sumTo i + i) = sumTo i + i := by unfold wrap64; omega
    have hw2 : wrap64 ((i : Int) + 1) = (i : Int) + 1 := by unfold wrap64; omega
    have h1 := (run_go h0 rfl).trans (loop_test (by omega))
    have h2 := (run_go h1 rfl).trans (loop_print (by unfold outTo; simp; omega))
    have h3 := (run_go h2 rfl).trans (loop_add hw1)
    have h4 := (run_go h3 rfl).trans (loop_next hw2)
    have h5 := (run_go h4 rfl).trans loop_back
    rw [← sumTo_succ, ← outTo_succ] at h5
    exact h5
theorem loop_run (mem : List Int) (k : Nat) (hk : k < 60) : runS [loopC] (startS mem [(k : Int)]) 400 = ⟨[sumTo k, k, k, 0, 0, 0, 0, 0, 0, 0, 0, 0, 0, 0, 0, 0], mem, [], [], outTo k, 5 * k + 3, 0, sumTo k, true⟩ := by
  have h0 := loop_rounds mem k hk k (Nat.le_refl _)
  have h1 := (run_go h0 rfl).trans (loop_last (Int.le_refl _))
  have h2 := (run_go h1 rfl).trans loop_done
  rw [(run_over (by rw [h2]) 400 (by omega)).1, h2]

def deepC : List Mac := [⟨46, 0, 0, 0, 0⟩, ⟨39, 0, 0, 0, 3⟩, ⟨44, 0, 0, 0, 0⟩, ⟨45, 0, 0, 0, 0⟩]
def zs120 : List Int := List.replicate 120 0
/-- So many calls wait, the newest stands at pc. -/
def deepAt (mem : List Int) (r : Int) (n pc st : Nat) (inp : List Int) : Mch :=
  ⟨[r, 0, 0, 0, 0, 0, 0, 0, 0, 0, 0, 0, 0, 0, 0, 0], mem, ⟨0, pc, zs120⟩ :: List.replicate n ⟨0, 3, zs120⟩, inp, [], st, 0, 0, false⟩
section
variable {mem : List Int} {r x : Int} {n st : Nat} {inp : List Int}
theorem deep_read : stepS [deepC] (deepAt mem r n 0 st (x :: inp)) = deepAt mem x n 1 (st + 1) inp := by
  simp [stepS, deepAt, doS, macAt, deepC, speaksS, readM, Mch.begun, Fr.next]
theorem deep_none : stepS [deepC] (deepAt mem r n 0 st []) = deepAt mem (-1) n 1 (st + 1) [] := by
  simp [stepS, deepAt, doS, macAt, deepC, speaksS, readM, Mch.set, Mch.begun, Fr.next]
theorem deep_on (h : r ≠ 0) : stepS [deepC] (deepAt mem r n 1 st inp) = deepAt mem r n 2 (st + 1) inp := by
  simp [stepS, deepAt, doS, macAt, deepC, goesS, Mch.reg, Mch.begun, Fr.next, h]
theorem deep_off : stepS [deepC] (deepAt mem 0 n 1 st inp) = deepAt mem 0 n 3 (st + 1) inp := by
  simp [stepS, deepAt, doS, macAt, deepC, goesS, Mch.reg, Mch.begun, Fr.next]
theorem deep_call (h : n + 1 ≠ 30) : stepS [deepC] (deepAt mem r n 2 st inp) = deepAt mem r (n + 1) 0 (st + 1) inp := by
  simp [stepS, deepAt, doS, macAt, deepC, speaksS, callS, Mch.begun, Fr.next, List.replicate_succ, zs120]
  omega
theorem deep_full : stepS [deepC] (deepAt mem r 29 2 st inp) = Mch.ends (deepAt mem r 29 3 (st + 1) inp) 4 := by
  simp [stepS, deepAt, doS, macAt, deepC, speaksS, callS, Mch.begun, Fr.next, Mch.ends]
theorem deep_back : stepS [deepC] (deepAt mem r (n + 1) 3 st inp) = deepAt mem r n 3 (st + 1) inp := by
  simp [stepS, deepAt, doS, macAt, deepC, speaksS, retS, Mch.begun, List.replicate_succ]
theorem deep_done : stepS [deepC] (deepAt mem r 0 3 st inp) = ⟨[r, 0, 0, 0, 0, 0, 0, 0, 0, 0, 0, 0, 0, 0, 0, 0], mem, [], inp, [], st + 1, 0, r, true⟩ := by
  simp [stepS, deepAt, doS, macAt, deepC, speaksS, retS, Mch.reg, Mch.begun]
theorem deep_start : startS mem inp = deepAt mem 0 0 0 0 inp := by
  simp [startS, deepAt, zs120, List.replicate_succ]
end
theorem deep_down (mem : List Int) (k : Nat) (hk : k < 30) : ∀ i, i ≤ k → ∃ r, runS [deepC] (startS mem (List.replicate k 1 ++ [0])) (3 * i) = deepAt mem r i 0 (3 * i) (List.replicate (k - i) 1 ++ [0]) := by
  intro i
  induction i with
  | zero => intro _; exact ⟨0, deep_start⟩
  | succ i ih =>
    intro hi
    obtain ⟨r, h0⟩ := ih (by omega)
    rw [show k - i = (k - (i + 1)) + 1 by omega, List.replicate_succ, List.cons_append] at h0
    have h1 := (run_go h0 rfl).trans deep_read
    have h2 := (run_go h1 rfl).trans (deep_on (by decide))
    have h3 := (run_go h2 rfl).trans (deep_call (by omega))
    exact ⟨1, h3⟩
theorem deep_up (mem : List Int) (k st : Nat) (s0 : Mch) (n : Nat) (h : runS [deepC] s0 n = deepAt mem 0 k 3 st []) : ∀ j, j ≤ k → runS [deepC] s0 (n + j) = deepAt mem 0 (k - j) 3 (st + j) [] := by
  intro j
  induction j with
  | zero => intro _; exact h
  | succ j ih =>
    intro hj
    have h0 := ih (by omega)
    rw [show k - j = (k - (j + 1)) + 1 by omega] at h0
    exact (run_go h0 rfl).trans deep_back
theorem deep_run (mem : List Int) (k : Nat) (hk : k < 30) : ∃ v, runS [deepC] (startS mem (List.replicate k 1 ++ [0])) 400 = v ∧ v.over = true ∧ v.state = 0 ∧ v.steps = 4 * k + 3 := by
  obtain ⟨r, h0⟩ := deep_down mem k hk k (Nat.le_refl _)
  rw [Nat.sub_self, List.replicate_zero, List.nil_append] at h0
  have h1 := (run_go h0 rfl).trans deep_read
  have h2 := (run_go h1 rfl).trans deep_off
  have h3 := deep_up mem k _ _ _ h2 k (Nat.le_refl _)
  rw [Nat.sub_self] at h3
  have h4 := (run_go h3 rfl).trans deep_done
  refine ⟨_, rfl, ?_⟩
  rw [(run_over (by rw [h4]) 400 (by omega)).1, h4]
  refine ⟨rfl, rfl, ?_⟩
  show 3 * k + 1 + 1 + k + 1 = 4 * k + 3
  omega
theorem deep_sink (mem : List Int) : ∀ i, i ≤ 29 → ∃ r, runS [deepC] (startS mem []) (3 * i) = deepAt mem r i 0 (3 * i) [] := by
  intro i
  induction i with
  | zero => intro _; exact ⟨0, deep_start⟩
  | succ i ih =>
    intro hi
    obtain ⟨r, h0⟩ := ih (by omega)
    have h1 := (run_go h0 rfl).trans deep_none
    have h2 := (run_go h1 rfl).trans (deep_on (by decide))
    have h3 := (run_go h2 rfl).trans (deep_call (by omega))
    exact ⟨-1, h3⟩
theorem deep_over (mem : List Int) : ∃ v, runS [deepC] (startS mem []) 400 = v ∧ v.over = true ∧ v.state = 4 ∧ v.steps = 90 := by
  obtain ⟨r, h0⟩ := deep_sink mem 29 (Nat.le_refl _)
  have h1 := (run_go h0 rfl).trans deep_none
  have h2 := (run_go h1 rfl).trans (deep_on (by decide))
  have h3 := (run_go h2 rfl).trans deep_full
  refine ⟨_, rfl, ?_⟩
  rw [(run_over (by rw [h3]; rfl) 400 (by omega)).1, h3]
  exact ⟨rfl, rfl, rfl⟩
end Go.Proofs.YtkiaffaieniebaaDoor
