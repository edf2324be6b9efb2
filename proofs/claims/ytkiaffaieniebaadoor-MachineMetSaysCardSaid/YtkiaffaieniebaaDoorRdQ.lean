/-
  The bytes of code are bytes (plain).
  Conditions: the code is without fault.
-/
import Derived.Test.YtkiaffaieniebaaDoorRdP
namespace Go.Proofs.YtkiaffaieniebaaDoor
open Go.RowKit

theorem numS_bytes : ∀ (n : Nat), BytesOk (numS n) := by
  intro n
  induction n using Nat.strongRecOn with
  | _ n ih =>
    by_cases h : n < 128
    · rw [numS_small n h]
      intro x hx
      rw [List.mem_singleton.1 hx]
      omega
    · rw [numS_big n h]
      intro x hx
      rcases List.mem_cons.1 hx with rfl | hx
      · omega
      · exact ih (n / 128) (by omega) x hx
theorem pack_bytes : ∀ (rs : List Int), (∀ x ∈ rs, 0 ≤ x ∧ x < 16) → BytesOk (packS rs)
  | [], _ => fun x hx => by cases hx
  | [x], h => fun y hy => by
    have := h x (by simp)
    rw [List.mem_singleton.1 hy]
    omega
  | x :: y :: l, h => fun z hz => by
    have hx := h x (by simp)
    have hy := h y (by simp)
    rcases List.mem_cons.1 hz with rfl | hz
    · omega
    · exact pack_bytes l (fun a ha => h a (by simp [ha])) z hz
theorem codeS_bytes {m : Mac} (h : Fine m) : BytesOk (codeS m) := by
  intro x hx
  unfold codeS at hx
  rcases List.mem_cons.1 hx with rfl | hx
  · have := (isOp_iff _).1 h.op
    omega
  · rcases List.mem_append.1 hx with hx | hx
    · exact pack_bytes _ (regs_in m h.regs) x hx
    · split at hx
      · cases hx
      · exact numS_bytes _ x hx
theorem codeL_bytes {ms : List Mac} (h : (checkS ms).1 = 0) (hi : ∀ m ∈ ms, m.ok) : BytesOk (codeL ms) := by
  have hf := (fine_of_check h hi).2
  intro x hx
  unfold codeL at hx
  rw [if_pos h] at hx
  unfold bytesS at hx
  obtain ⟨l, hl, hx⟩ := List.mem_flatten.1 hx
  obtain ⟨m, hm, rfl⟩ := List.mem_map.1 hl
  exact codeS_bytes (hf m hm) x hx
end Go.Proofs.YtkiaffaieniebaaDoor
