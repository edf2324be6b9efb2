/-
  What running the image of one routine comes to; the law MachineLoop walks to true.
  Conditions: the code is without fault; the table shapes lies as its initialiser lays it.
-/
import Derived.Test.YtkiaffaieniebaaDoorRuK
import Derived.Test.YtkiaffaieniebaaDoorRuL
namespace Go.Proofs.YtkiaffaieniebaaDoor
open Go.RowKit

theorem kGlobs_fine : globF kGlobs = (0, 0) := by decide +kernel
theorem kGlobs_mem : memS kGlobs = [5, 0, 0] := by decide +kernel
theorem kGlobs_ok : GOk kGlobs := by
  intro g hg
  simp only [kGlobs, List.mem_cons, List.not_mem_nil, or_false] at hg
  rcases hg with rfl | rfl
  · exact ⟨by decide, by unfold I64; decide⟩
  · exact ⟨by decide, by unfold I64; decide⟩
theorem main_name : rNameBad 0 mainB = false := by decide +kernel
theorem main_had : rHadG kGlobs mainB = false := by decide +kernel
section
variable {ms : List Mac} {inp : List Int} {fuel : Nat}
theorem alone_rok (hck : (checkS ms).1 = 0) (hi : ∀ m ∈ ms, m.ok) : ROk [⟨mainB, codeL ms⟩] := by
  intro r hr
  rw [List.mem_singleton.1 hr]
  exact ⟨by show mainB.size ≤ _; decide, codeL_bytes hck hi⟩
theorem alone_fine (hck : (checkS ms).1 = 0) (hi : ∀ m ∈ ms, m.ok) (hfar : ms.any (farB 1) = false) : machF kGlobs [⟨mainB, codeL ms⟩] = (0, 0) := by
  refine machF_ok (by rw [kGlobs_fine]) (by simp) (by simp) fun j hj => ?_
  obtain rfl : j = 0 := by simpa using hj
  refine rBad_ok (k := 0) main_name (by rw [main_had]; rfl) ?_ ?_
  · rw [read_codeL hck hi]
  · rw [read_codeL hck hi]
    exact hfar
theorem alone_codes (hck : (checkS ms).1 = 0) (hi : ∀ m ∈ ms, m.ok) : imgCodes [⟨mainB, codeL ms⟩] = [ms] := by
  unfold imgCodes
  simp only [List.map_cons, List.map_nil]
  rw [read_codeL hck hi]
theorem alone_run (hck : (checkS ms).1 = 0) (hi : ∀ m ∈ ms, m.ok) (hfar : ms.any (farB 1) = false) (hin : inp.length ≤ 30) (hf : fuel ≤ 900000) :
    runF kGlobs [⟨mainB, codeL ms⟩] inp (fuel : Int) = (0, 0) ∧ runO kGlobs [⟨mainB, codeL ms⟩] inp (fuel : Int) = (runS [ms] (startS [5, 0, 0] inp) fuel).told ∧ runT kGlobs [⟨mainB, codeL ms⟩] inp (fuel : Int) = metS [ms] (startS [5, 0, 0] inp) fuel := by
  have h : runF kGlobs [⟨mainB, codeL ms⟩] inp (fuel : Int) = (0, 0) := by
    unfold runF
    rw [alone_fine hck hi hfar, if_neg (by simp), if_neg (by omega), if_neg (by omega)]
  refine ⟨h, ?_, ?_⟩
  · rw [(run_fine h).1, alone_codes hck hi, Int.toNat_natCast]
    unfold beginS
    rw [kGlobs_mem]
  · rw [(run_fine h).2.2, alone_codes hck hi, Int.toNat_natCast]
    unfold beginS
    rw [kGlobs_mem]
end
theorem loop_ok : (checkS loopC).1 = 0 := by decide +kernel
theorem loop_i64 : ∀ m ∈ loopC, m.ok := by
  intro m hm
  simp only [loopC, List.mem_cons, List.not_mem_nil, or_false] at hm
  rcases hm with rfl | rfl | rfl | rfl | rfl | rfl | rfl
  all_goals exact ⟨by unfold I64; decide, by unfold I64; decide, by unfold I64; decide, by unfold I64; decide, by unfold I64; decide⟩
theorem loop_far : loopC.any (farB 1) = false := by decide +kernel
theorem deep_ok : (checkS deepC).1 = 0 := by decide +kernel
theorem deep_i64 : ∀ m ∈ deepC, m.ok := by
  intro m hm
  simp only [deepC, List.mem_cons, List.not_mem_nil, or_false] at hm
  rcases hm with rfl | rfl | rfl | rfl
  all_goals exact ⟨by unfold I64; decide, by unfold I64; decide, by unfold I64; decide, by unfold I64; decide, by unfold I64; decide⟩
theorem deep_far : deepC.any (farB 1) = false := by decide +kernel
end Go.Proofs.YtkiaffaieniebaaDoor
