/-
  PLAIN: exchanging the two routines after main and renumbering the calls does not change a run.
  Conditions: none.
-/
import Derived.Test.YtkiaffaieniebaaDoorRuW
namespace Go.Proofs.YtkiaffaieniebaaDoor
open Go.RowKit

def swN (r : Nat) : Nat := if r = 1 then 2 else if r = 2 then 1 else r
def swF (f : Fr) : Fr := { f with r := swN f.r }
def swS (s : Mch) : Mch := { s with calls := s.calls.map swF }
def swM (m : Mac) : Mac := if m.op = 44 then { m with n := (swN m.n.toNat : Nat) } else m
theorem sw_ends (s : Mch) (st : Int) : (swS s).ends st = swS (s.ends st) := rfl
theorem sw_reck (op d a b : Int) (s : Mch) : reckS op d a b (swS s) = swS (reckS op d a b s) := by
  unfold reckS
  split <;> rfl
theorem sw_load (d n : Int) (s : Mch) : loadS d n (swS s) = swS (loadS d n s) := by
  unfold loadS
  show (if 0 ≤ n ∧ n < (s.mem.length : Int) then _ else _) = _
  split <;> rfl
theorem sw_store (n v : Int) (s : Mch) : storeS n v (swS s) = swS (storeS n v s) := by
  unfold storeS
  show (if 0 ≤ n ∧ n < (s.mem.length : Int) then _ else _) = _
  split <;> rfl
theorem sw_read (d : Int) (s : Mch) : readM d (swS s) = swS (readM d s) := by
  obtain ⟨_, _, _, inp, _, _, _, _, _⟩ := s
  cases inp <;> rfl
theorem sw_moves (i : Mac) (c : Fr) (cs : List Fr) (s : Mch) : movesS i (swF c) (cs.map swF) (swS s) = swS (movesS i c cs s) := by
  unfold movesS
  repeat' split
  all_goals first
    | rfl
    | exact sw_load _ _ s
    | exact sw_store _ _ s
theorem sw_speaks (i : Mac) (cs : List Fr) (s : Mch) (h : i.op ≠ 44) : speaksS i (cs.map swF) (swS s) = swS (speaksS i cs s) := by
  unfold speaksS
  rw [if_neg h, if_neg h]
  repeat' split
  · unfold retS
    rw [List.length_map]
    split <;> rfl
  · exact sw_read _ s
  · unfold printS
    show (if s.out.length = 200 then _ else _) = _
    split <;> rfl
theorem sw_call (n : Int) (s : Mch) : callS ((swN n.toNat : Nat) : Int) (swS s) = swS (callS n s) := by
  unfold callS
  rw [show (swS s).calls.length = s.calls.length from List.length_map ..]
  split
  · rfl
  · rfl
theorem sw_do (i : Mac) (c : Fr) (cs : List Fr) (s : Mch) : doS (swM i) (swF c) (cs.map swF) (swS s) = swS (doS i c cs s) := by
  by_cases h : i.op = 44
  · have e1 : doS (swM i) (swF c) (cs.map swF) (swS s) = callS ((swN i.n.toNat : Nat) : Int) (swS s) := by
      unfold swM
      rw [if_pos h]
      unfold doS speaksS
      simp [h]
    have e2 : doS i c cs s = callS i.n s := by
      unfold doS speaksS
      simp [h]
    rw [e1, e2, sw_call]
  · have e : swM i = i := by unfold swM; rw [if_neg h]
    rw [e]
    unfold doS
    split
    · exact sw_reck _ _ _ _ _
    split
    · exact sw_reck _ _ _ _ _
    split
    · show (if goesS i.op (s.reg i.a) (s.reg i.b) then _ else _) = _
      split <;> rfl
    split
    · exact sw_speaks i cs s h
    · exact sw_moves i c cs s
/-- The codes with the two routines exchanged and the calls renumbered. -/
def swC (a b c : List Mac) : List (List Mac) := [a.map swM, c.map swM, b.map swM]
theorem sw_at (a b c : List Mac) (r pc : Nat) : macAt (swC a b c) (swN r) pc = swM (macAt [a, b, c] r pc) := by
  have key : ∀ l : List Mac, (l.map swM).getD pc ⟨0, 0, 0, 0, 0⟩ = swM (l.getD pc ⟨0, 0, 0, 0, 0⟩) := fun l => by
    rw [List.getD_eq_getElem?_getD, List.getD_eq_getElem?_getD, List.getElem?_map]
    cases l[pc]? <;> rfl
  unfold macAt swC swN
  match r with
  | 0 => exact key a
  | 1 => exact key b
  | 2 => exact key c
  | k + 3 => simp [swM]
theorem sw_step (a b c : List Mac) (s : Mch) : stepS (swC a b c) (swS s) = swS (stepS [a, b, c] s) := by
  unfold stepS
  obtain ⟨rg, mm, cs, inp, o, st, sta, v, ov⟩ := s
  cases cs with
  | nil => rfl
  | cons f l =>
    show doS (macAt (swC a b c) (swF f).r (swF f).pc) (swF f).next (l.map swF) _ = swS (doS (macAt [a, b, c] f.r f.pc) f.next l _)
    rw [← sw_do, ← sw_at]
    rfl
theorem sw_over (s : Mch) : (swS s).over = s.over := rfl
theorem sw_run (a b c : List Mac) (s : Mch) : ∀ k, runS (swC a b c) (swS s) k = swS (runS [a, b, c] s k)
  | 0 => rfl
  | k + 1 => by
    show (if (runS (swC a b c) (swS s) k).over then _ else _) = swS (if (runS [a, b, c] s k).over then _ else _)
    rw [sw_run a b c s k, sw_over]
    split
    · rfl
    · exact sw_step a b c _
/-- The law of order. -/
theorem order_law (a b c : List Mac) (mem inp : List Int) (k : Nat) : sameB (runS [a, b, c] (startS mem inp) k).told (runS (swC a b c) (startS mem inp) k).told = true := by
  have h := sw_run a b c (startS mem inp) k
  rw [show swS (startS mem inp) = startS mem inp from rfl] at h
  rw [h]
  unfold sameB Mch.told
  rw [sw_over]
  split <;> simp [swS]
theorem swM_op (m : Mac) : (swM m).op = m.op ∧ (swM m).dst = m.dst ∧ (swM m).a = m.a ∧ (swM m).b = m.b := by
  unfold swM
  split <;> exact ⟨rfl, rfl, rfl, rfl⟩
theorem swM_fault (m : Mac) (many : Int) (h : faultS m many = 0) : faultS (swM m) many = 0 := by
  rw [fault_zero] at h ⊢
  obtain ⟨h1, h2, h3, h4, h5, h6⟩ := h
  obtain ⟨e1, e2, e3, e4⟩ := swM_op m
  rw [e1, e2, e3, e4]
  refine ⟨h1, ?_, h3, h4, h5, ?_⟩
  · unfold RegsOk at h2 ⊢
    rw [e1, e2, e3, e4]
    exact h2
  · by_cases h44 : m.op = 44
    · unfold swM
      rw [if_pos h44]
      rw [h44] at h6 ⊢
      rw [show shK 44 = 4 by decide +kernel] at h6 ⊢
      unfold numberS at h6 ⊢
      simp at h6 ⊢
    · rw [show swM m = m by unfold swM; rw [if_neg h44]]
      exact h6
theorem swC_ok {ms : List Mac} (h : (checkS ms).1 = 0) : (checkS (ms.map swM)).1 = 0 := by
  rw [code_ok_iff] at h ⊢
  obtain ⟨h1, h2, m, h3, h4⟩ := h
  rw [List.length_map]
  refine ⟨h1, fun j m' hj => ?_, swM m, by rw [List.getElem?_map, h3]; rfl, by rw [(swM_op m).1]; exact h4⟩
  rw [List.getElem?_map] at hj
  cases hm : ms[j]? with
  | none => rw [hm] at hj; cases hj
  | some m0 =>
    rw [hm] at hj
    cases hj
    exact swM_fault m0 _ (h2 j m0 hm)
/-- Code without fault whose calls name one of three routines. -/
def Fine3 (ms : List Mac) : Prop := (checkS ms).1 = 0 ∧ (∀ m ∈ ms, m.ok) ∧ ms.any (farB 3) = false
theorem fine3_code {l : List Int} {n : Nat} (hl : ∀ x ∈ l, I64 x) (hn : n ≤ 1000) : Fine3 (codeOf l n 3) :=
  ⟨by rw [codeOf_ok l n 3 (by omega) (by omega)], codeOf_i64 l n 3 (by omega) (by unfold I64; omega) hl (by omega), codeOf_near hn l⟩
theorem fine3_sw {ms : List Mac} (h : Fine3 ms) : Fine3 (ms.map swM) := by
  obtain ⟨h1, h2, h3⟩ := h
  have key : ∀ m ∈ ms, m.op = 44 → swN m.n.toNat < 3 := fun m hm h44 => by
    have := List.any_eq_false.1 h3 m hm
    unfold farB at this
    rw [h44] at this
    simp at this
    unfold swN
    split
    · omega
    · split <;> omega
  refine ⟨swC_ok h1, fun m hm => ?_, ?_⟩
  · obtain ⟨m0, h0, rfl⟩ := List.mem_map.1 hm
    obtain ⟨o1, o2, o3, o4, o5⟩ := h2 m0 h0
    obtain ⟨e1, e2, e3, e4⟩ := swM_op m0
    refine ⟨by rw [e1]; exact o1, by rw [e2]; exact o2, by rw [e3]; exact o3, by rw [e4]; exact o4, ?_⟩
    by_cases h44 : m0.op = 44
    · have := key m0 h0 h44
      unfold swM
      rw [if_pos h44]
      unfold I64
      simp only
      omega
    · rw [show swM m0 = m0 by unfold swM; rw [if_neg h44]]
      exact o5
  · rw [List.any_eq_false]
    intro m hm
    obtain ⟨m0, h0, rfl⟩ := List.mem_map.1 hm
    by_cases h44 : m0.op = 44
    · have := key m0 h0 h44
      unfold swM farB
      rw [if_pos h44]
      simp only [Bool.and_eq_true, beq_iff_eq, decide_eq_true_eq, not_and]
      intro _
      omega
    · unfold farB
      rw [(swM_op m0).1]
      simp [h44]
/-- An image of three routines. -/
def thrR (n1 n2 : ByteArray) (a b c : List Mac) : List Rout := [⟨mainB, codeL a⟩, ⟨n1, codeL b⟩, ⟨n2, codeL c⟩]
/-- Two names that may stand beside main. -/
def Names3 (n1 n2 : ByteArray) : Prop := n1.size ≤ 9223372036854775807 ∧ n2.size ≤ 9223372036854775807 ∧ rNameBad 1 n1 = false ∧ rNameBad 2 n2 = false ∧
  rHadG kGlobs n1 = false ∧ rHadG kGlobs n2 = false ∧ (mainB.toList == n1.toList) = false ∧ (mainB.toList == n2.toList) = false ∧ (n1.toList == n2.toList) = false
section
variable {n1 n2 : ByteArray} {a b c : List Mac}
theorem thr_rok (hn : Names3 n1 n2) (ha : Fine3 a) (hb : Fine3 b) (hc : Fine3 c) : ROk (thrR n1 n2 a b c) := by
  intro r hr
  simp only [thrR, List.mem_cons, List.not_mem_nil, or_false] at hr
  rcases hr with rfl | rfl | rfl
  · exact ⟨by show mainB.size ≤ _; decide, codeL_bytes ha.1 ha.2.1⟩
  · exact ⟨hn.1, codeL_bytes hb.1 hb.2.1⟩
  · exact ⟨hn.2.1, codeL_bytes hc.1 hc.2.1⟩
theorem thr_codes (ha : Fine3 a) (hb : Fine3 b) (hc : Fine3 c) : imgCodes (thrR n1 n2 a b c) = [a, b, c] := by
  unfold imgCodes thrR
  simp only [List.map_cons, List.map_nil]
  rw [read_codeL ha.1 ha.2.1, read_codeL hb.1 hb.2.1, read_codeL hc.1 hc.2.1]
theorem thr_fine (hn : Names3 n1 n2) (ha : Fine3 a) (hb : Fine3 b) (hc : Fine3 c) : machF kGlobs (thrR n1 n2 a b c) = (0, 0) := by
  obtain ⟨_, _, m1, m2, g1, g2, d1, d2, d3⟩ := hn
  refine machF_ok (by rw [kGlobs_fine]) (by simp [thrR]) (by simp [thrR]) fun j hj => ?_
  have hj3 : j < 3 := hj
  have key : ∀ (k : Nat) (pre : List Rout) (nm : ByteArray) (l : List Mac), Fine3 l → rNameBad k nm = false → (rHadG kGlobs nm || rHadR pre nm) = false → rBad kGlobs 3 k pre ⟨nm, codeL l⟩ = 0 := fun k pre nm l hl h1 h2 => by
    refine rBad_ok h1 h2 ?_ ?_
    · rw [read_codeL hl.1 hl.2.1]
    · rw [read_codeL hl.1 hl.2.1]
      exact hl.2.2
  match j, hj3 with
  | 0, _ => exact key 0 [] mainB a ha main_name (by rw [main_had]; rfl)
  | 1, _ => exact key 1 _ _ b hb m1 (by rw [Bool.or_eq_false_iff]; exact ⟨g1, by show ((mainB.toList == n1.toList) || false) = false; rw [d1]; rfl⟩)
  | 2, _ => exact key 2 _ _ c hc m2 (by rw [Bool.or_eq_false_iff]; exact ⟨g2, by show ((mainB.toList == n2.toList) || ((n1.toList == n2.toList) || false)) = false; rw [d2, d3]; rfl⟩)
  | k + 3, h => omega
theorem thr_run (hn : Names3 n1 n2) (ha : Fine3 a) (hb : Fine3 b) (hc : Fine3 c) {inp : List Int} (hin : inp.length ≤ 30) {fuel : Nat} (hf : fuel ≤ 900000) :
    runF kGlobs (thrR n1 n2 a b c) inp (fuel : Int) = (0, 0) ∧ runO kGlobs (thrR n1 n2 a b c) inp (fuel : Int) = (runS [a, b, c] (beginS kGlobs inp) fuel).told := by
  have h : runF kGlobs (thrR n1 n2 a b c) inp (fuel : Int) = (0, 0) := by
    unfold runF
    rw [thr_fine hn ha hb hc, if_neg (by simp), if_neg (by omega), if_neg (by omega)]
  refine ⟨h, ?_⟩
  rw [(run_fine h).1, thr_codes ha hb hc, Int.toNat_natCast]
end
theorem names_fk : Names3 ⟨#[102]⟩ ⟨#[107]⟩ :=
  ⟨by show (⟨#[102]⟩ : ByteArray).size ≤ _; decide, by show (⟨#[107]⟩ : ByteArray).size ≤ _; decide, by decide +kernel, by decide +kernel, by decide +kernel, by decide +kernel, by decide +kernel, by decide +kernel, by decide +kernel⟩
theorem names_xy : Names3 ⟨#[120]⟩ ⟨#[121]⟩ :=
  ⟨by show (⟨#[120]⟩ : ByteArray).size ≤ _; decide, by show (⟨#[121]⟩ : ByteArray).size ≤ _; decide, by decide +kernel, by decide +kernel, by decide +kernel, by decide +kernel, by decide +kernel, by decide +kernel, by decide +kernel⟩
/-- As many positions are met as steps are made. -/
theorem met_len {codes : List (List Mac)} {s : Mch} (hc : GoodC codes) (hg : GoodS codes s) (h0 : s.steps = 0) : ∀ k, (metS codes s k).length = (runS codes s k).steps
  | 0 => h0.symm
  | k + 1 => by
    have ih := met_len hc hg h0 k
    cases ho : (runS codes s k).over
    · rw [(run_succ ho).1, (run_succ ho).2, step_steps (good_run hc hg k) ho, List.length_append, ih]
      rfl
    · rw [(run_over ho (k + 1) (by omega)).1, (run_over ho (k + 1) (by omega)).2, ih]
/-- Each position that is met lies in the codes. -/
theorem met_in {codes : List (List Mac)} {s : Mch} (hc : GoodC codes) (hg : GoodS codes s) : ∀ k p, p ∈ metS codes s k → p.1 < codes.length ∧ p.2 < (codes.getD p.1 []).length
  | 0, p, h => by cases h
  | k + 1, p, h => by
    cases ho : (runS codes s k).over
    · rw [(run_succ ho).2, List.mem_append, List.mem_singleton] at h
      rcases h with h | rfl
      · exact met_in hc hg k p h
      · have hG := good_run hc hg k
        unfold Mch.pos
        cases hcs : (runS codes s k).calls with
        | nil => exact absurd hcs (hG.some ho)
        | cons c cs =>
          obtain ⟨ms, h1, h2, _⟩ := hG.frs c (by rw [hcs]; simp)
          have hlt : c.r < codes.length := by
            rcases Nat.lt_or_ge c.r codes.length with h | h
            · exact h
            · rw [List.getElem?_eq_none h] at h1; cases h1
          refine ⟨hlt, ?_⟩
          show c.pc < (codes.getD c.r []).length
          rw [List.getD_eq_getElem?_getD, h1]
          exact h2
    · rw [(run_over ho (k + 1) (by omega)).2] at h
      exact met_in hc hg k p h
end Go.Proofs.YtkiaffaieniebaaDoor
