/-
  What holds of an image without fault (plain): its codes are good, its memory is small; what running it comes to.
  Conditions: as the theorems say.
-/
import Derived.Test.YtkiaffaieniebaaDoorRuP
import Derived.Test.YtkiaffaieniebaaDoorMcZ
namespace Go.Proofs.YtkiaffaieniebaaDoor
open Go.RowKit

theorem firstBad_zero {bad : Nat → Int} {n : Nat} (h : (firstBad bad n).1 = 0) : ∀ j, j < n → bad j = 0 := by
  intro j hj
  unfold firstBad at h
  cases hf : (List.range n).find? (fun i => bad i != 0) with
  | none =>
    rw [List.find?_eq_none] at hf
    simpa using hf j (by simpa using hj)
  | some i =>
    rw [hf] at h
    have := List.find?_some hf
    simp only at h
    simp [h] at this
theorem machF_zero {gs : List Glob} {rs : List Rout} (h : (machF gs rs).1 = 0) : (globF gs).1 = 0 ∧ 0 < rs.length ∧ rs.length ≤ 40 ∧ ∀ j, j < rs.length → rBadAt gs rs j = 0 := by
  unfold machF at h
  split at h
  · rename_i h1
    exact absurd h h1
  split at h
  · cases h
  split at h
  · cases h
  · rename_i h1 h2 h3
    exact ⟨by simpa using h1, by omega, by omega, firstBad_zero h⟩
theorem sh_word (op : Int) (h : op = 35 ∨ op = 36) : shK op = 3 := by rcases h with rfl | rfl <;> rfl
theorem sh_targ (op : Int) (h : 37 ≤ op ∧ op ≤ 43) : shK op = 2 := by
  obtain rfl | rfl | rfl | rfl | rfl | rfl | rfl : op = 37 ∨ op = 38 ∨ op = 39 ∨ op = 40 ∨ op = 41 ∨ op = 42 ∨ op = 43 := by omega
  all_goals rfl
theorem sh_call : shK 44 = 4 := rfl
theorem goodM_of {m : Mac} {len rts : Nat} (h : faultS m (len : Int) = 0) (hf : farB rts m = false) : GoodM m len rts := by
  obtain ⟨ho, ⟨r1, r2, r3⟩, z1, z2, z3, hn⟩ := (fault_zero m _).1 h
  rw [isOp_iff] at ho
  refine ⟨ho.1, ho.2, ?_, ?_, ?_, ?_, ?_, ?_, fun hw => ?_, fun ht => ?_, fun hr => ?_⟩
  · cases e : shD m.op
    · rw [z1 e]; omega
    · exact (r1 e).1
  · cases e : shD m.op
    · rw [z1 e]; omega
    · exact (r1 e).2
  · cases e : shA m.op
    · rw [z2 e]; omega
    · exact (r2 e).1
  · cases e : shA m.op
    · rw [z2 e]; omega
    · exact (r2 e).2
  · cases e : shB m.op
    · rw [z3 e]; omega
    · exact (r3 e).1
  · cases e : shB m.op
    · rw [z3 e]; omega
    · exact (r3 e).2
  · rw [sh_word _ hw] at hn
    unfold numberS at hn
    simp at hn
    omega
  · rw [sh_targ _ ht] at hn
    unfold numberS at hn
    simp at hn
    omega
  · rw [hr, sh_call] at hn
    unfold numberS at hn
    simp at hn
    refine ⟨hn, ?_⟩
    unfold farB at hf
    rw [hr] at hf
    simp at hf
    omega
theorem goodL_of {ms : List Mac} {rts : Nat} (h : (checkS ms).1 = 0) (hf : ms.any (farB rts) = false) : GoodL ms rts := by
  obtain ⟨h1, h2, h3⟩ := (code_ok_iff ms).1 h
  refine ⟨h1, fun j m hm => goodM_of (h2 j m hm) ?_, h3⟩
  rw [List.any_eq_false] at hf
  simpa using hf m (List.mem_of_getElem? hm)
theorem rBad_zero {gs : List Glob} {rs : List Rout} {j : Nat} {r : Rout} (hr : rs[j]? = some r) (h : rBadAt gs rs j = 0) : (readL r.code).1.1 = 0 ∧ (readL r.code).2.any (farB rs.length) = false := by
  unfold rBadAt at h
  rw [hr] at h
  simp only at h
  unfold rBad at h
  split at h
  · cases h
  split at h
  · cases h
  split at h
  · cases h
  split at h
  · cases h
  · rename_i h3 h4
    exact ⟨by simpa using h3, by simpa using h4⟩
theorem goodC_of {gs : List Glob} {rs : List Rout} (hro : ROk rs) (h : (machF gs rs).1 = 0) : GoodC (imgCodes rs) := by
  obtain ⟨_, _, _, hb⟩ := machF_zero h
  intro r ms hr
  unfold imgCodes at hr ⊢
  rw [List.getElem?_map] at hr
  rw [List.length_map]
  cases hx : rs[r]? with
  | none => rw [hx] at hr; cases hr
  | some x =>
    rw [hx] at hr
    simp only [Option.map_some, Option.some.injEq] at hr
    subst hr
    obtain ⟨h1, h2⟩ := rBad_zero hx (hb r (List.getElem?_eq_some_iff.1 hx).1)
    exact goodL_of (readL_back (hro x (List.mem_of_getElem? hx)).2 h1).2.1 h2
theorem imgCodes_len (rs : List Rout) : (imgCodes rs).length = rs.length := by unfold imgCodes; rw [List.length_map]

def wordsG (g : Glob) : List Int := g.init ++ List.replicate (g.size.toNat - g.init.length) 0
/-- The memory of a run. -/
def memS (gs : List Glob) : List Int := (gs.map wordsG).flatten
theorem memS_snoc (gs : List Glob) (k : Nat) (g : Glob) (h : gs[k]? = some g) : memS (gs.take (k + 1)) = memS (gs.take k) ++ wordsG g := by
  unfold memS
  have hlt := (List.getElem?_eq_some_iff.1 h).1
  rw [List.take_succ_eq_append_getElem hlt, (List.getElem?_eq_some_iff.1 h).2, List.map_append, List.flatten_append]
  simp
structure GoodG (gs : List Glob) (k : Nat) (g : Glob) : Prop where
  lo : 1 ≤ g.size
  hi : g.size ≤ 200
  init : (g.init.length : Int) ≤ g.size
  sum : sumG (gs.take k) + g.size ≤ 200
theorem glob_good {gs : List Glob} (h : (globF gs).1 = 0) : gs.length ≤ 10 ∧ ∀ (k : Nat) (g : Glob), gs[k]? = some g → GoodG gs k g := by
  unfold globF at h
  split at h
  · cases h
  · refine ⟨by omega, fun k g hk => ?_⟩
    have hb := firstBad_zero h k (List.getElem?_eq_some_iff.1 hk).1
    unfold gBadAt at hb
    rw [hk] at hb
    simp only at hb
    unfold gBad at hb
    split at hb
    · cases hb
    split at hb
    · cases hb
    split at hb
    · cases hb
    split at hb
    · cases hb
    split at hb
    · cases hb
    · rename_i h3 h4 h5
      have h3' : 1 ≤ g.size ∧ g.size ≤ 200 := by simpa using h3
      exact ⟨h3'.1, h3'.2, by omega, by omega⟩
theorem memS_len {gs : List Glob} (h : (globF gs).1 = 0) : ∀ k, k ≤ gs.length → ((memS (gs.take k)).length : Int) = sumG (gs.take k) ∧ sumG (gs.take k) ≤ 200 := by
  intro k
  induction k with
  | zero => intro _; simp [memS, sumG]
  | succ k ih =>
    intro hk
    obtain ⟨i1, i2⟩ := ih (by omega)
    have hg : gs[k]? = some (gs[k]'(by omega)) := List.getElem?_eq_getElem _
    have hG := (glob_good h).2 k _ hg
    have g1 := hG.lo
    have g2 := hG.init
    have g3 := hG.sum
    rw [memS_snoc _ _ _ hg, sumG_snoc _ _ _ hg, List.length_append]
    unfold wordsG
    rw [List.length_append, List.length_replicate]
    omega
theorem memS_small {gs : List Glob} (h : (globF gs).1 = 0) : (memS gs).length ≤ 200 := by
  have := memS_len h gs.length (Nat.le_refl _)
  rw [List.take_length] at this
  omega

/-- The fault of running an image. -/
def runF (gs : List Glob) (rs : List Rout) (inp : List Int) (fuel : Int) : Int × Int :=
  if (machF gs rs).1 ≠ 0 then machF gs rs else if fuel < 0 ∨ 900000 < fuel then (3, -1) else if 30 < inp.length then (2, -1) else (0, 0)
def zeroM : Mch := startS [] []
def beginS (gs : List Glob) (inp : List Int) : Mch := startS (memS gs) inp
/-- What running an image comes to. -/
def runO (gs : List Glob) (rs : List Rout) (inp : List Int) (fuel : Int) : Mch :=
  if (runF gs rs inp fuel).1 ≠ 0 then zeroM else (runS (imgCodes rs) (beginS gs inp) fuel.toNat).told
def runL (gs : List Glob) (rs : List Rout) (inp : List Int) (fuel : Int) : List (List Mac) := if (runF gs rs inp fuel).1 ≠ 0 then [] else imgCodes rs
def runT (gs : List Glob) (rs : List Rout) (inp : List Int) (fuel : Int) : List (Nat × Nat) :=
  if (runF gs rs inp fuel).1 ≠ 0 then [] else metS (imgCodes rs) (beginS gs inp) fuel.toNat
theorem good_begin {gs : List Glob} {rs : List Rout} {inp : List Int} (hro : ROk rs) (h : (machF gs rs).1 = 0) (hi : inp.length ≤ 30) : GoodS (imgCodes rs) (beginS gs inp) :=
  good_start (goodC_of hro h) (by rw [imgCodes_len]; exact (machF_zero h).2.1) (memS_small (machF_zero h).1) hi
/-- A run stays where it is over. -/
theorem run_over {codes : List (List Mac)} {s : Mch} {k : Nat} (h : (runS codes s k).over = true) : ∀ n, k ≤ n → runS codes s n = runS codes s k ∧ metS codes s n = metS codes s k := by
  intro n hn
  induction n with
  | zero =>
    obtain rfl : k = 0 := by omega
    exact ⟨rfl, rfl⟩
  | succ n ih =>
    rcases Nat.lt_or_ge n k with h1 | h1
    · obtain rfl : k = n + 1 := by omega
      exact ⟨rfl, rfl⟩
    · obtain ⟨e1, e2⟩ := ih h1
      constructor
      · show (if _ then _ else _) = _
        rw [e1, if_pos h]
      · show (if _ then _ else _) = _
        rw [e1, if_pos h, e2]
theorem run_succ {codes : List (List Mac)} {s : Mch} {k : Nat} (h : (runS codes s k).over = false) : runS codes s (k + 1) = stepS codes (runS codes s k) ∧ metS codes s (k + 1) = metS codes s k ++ [(runS codes s k).pos] := by
  constructor
  · show (if _ then _ else _) = _
    rw [if_neg (by rw [h]; simp)]
  · show (if _ then _ else _) = _
    rw [if_neg (by rw [h]; simp)]
/-- So long as it is not over, a run has done as many steps as it was asked for. -/
theorem run_steps {codes : List (List Mac)} {s : Mch} (hc : GoodC codes) (hg : GoodS codes s) (h0 : s.steps = 0) : ∀ k, (runS codes s k).steps ≤ k ∧ ((runS codes s k).over = false → (runS codes s k).steps = k)
  | 0 => ⟨by show s.steps ≤ 0; omega, fun _ => h0⟩
  | k + 1 => by
    obtain ⟨h1, h2⟩ := run_steps hc hg h0 k
    cases ho : (runS codes s k).over
    · rw [(run_succ ho).1, step_steps (good_run hc hg k) ho]
      exact ⟨by omega, fun _ => by rw [h2 ho]⟩
    · rw [(run_over ho (k + 1) (by omega)).1]
      exact ⟨by omega, fun h => by rw [ho] at h; cases h⟩
end Go.Proofs.YtkiaffaieniebaaDoor
