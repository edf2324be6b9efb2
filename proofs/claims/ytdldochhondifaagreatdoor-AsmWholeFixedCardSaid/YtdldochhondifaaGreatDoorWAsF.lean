/-
  Texts of the claim AsmWholeFixed (AsF): what each proves stands at its theorems.
  Conditions: as the theorems say.
-/
import Derived.Lib.ItoaNum
import Derived.Lib.Join
import Derived.Laws.Concat
import Derived.Deep.DeepCutAuto
import Derived.BigQuiet
import Derived.BigRegion
import Derived.Test.YtdldochhondifaaGreatDoorWMacE
namespace Go.Proofs.YtdldochhondifaaGreatDoor
open Go.RowKit

/-- A text of bytes as Go's string. -/
def mkS (l : List UInt8) : ByteArray := ⟨l.toArray⟩
theorem mkS_size (l : List UInt8) : (mkS l).size = l.length := by simp [mkS, ByteArray.size]
theorem mkS_append (x y : List UInt8) : mkS x ++ mkS y = mkS (x ++ y) := ByteArray.mk_append_mk x y
theorem mkS_list (l : List UInt8) : (mkS l).data.toList = l := by simp [mkS]
theorem mkS_inj {x y : List UInt8} (h : mkS x = mkS y) : x = y := by rw [← mkS_list x, h, mkS_list]
/-- The words by their number; those with a number have the words of those without. -/
def wordTab : List (List UInt8) := [[], [115, 101, 116], [109, 111, 118, 101], [110, 101, 103], [110, 111, 116], [97, 100, 100], [115, 117, 98], [109, 117, 108], [100, 105, 118], [114, 101, 109], [97, 110, 100], [111, 114], [120, 111, 114], [115, 104, 108], [115, 104, 114], [101, 113], [110, 101], [108, 116], [108, 101], [], [], [], [], [], [], [], [], [], [], [], [], [], [], [108, 111, 97, 100], [115, 116, 111, 114, 101], [103, 101, 116], [112, 117, 116], [106, 117, 109, 112], [105, 102], [105, 102, 110, 111, 116], [105, 102, 101, 113], [105, 102, 110, 101], [105, 102, 108, 116], [105, 102, 108, 101], [99, 97, 108, 108], [114, 101, 116, 117, 114, 110], [114, 101, 97, 100], [112, 114, 105, 110, 116]]
def plainI (op : Int) : Int := if 19 ≤ op ∧ op ≤ 32 then op - 14 else op
def wordL (op : Int) : List UInt8 := wordTab.getD (plainI op).toNat []
theorem plain_range {op : Int} (h : isOp op = true) : (1 ≤ plainI op ∧ plainI op ≤ 18) ∨ (33 ≤ plainI op ∧ plainI op ≤ 47) := by
  have := (isOp_iff op).1 h
  unfold plainI
  split <;> omega
theorem word_len (op : Int) : (wordL op).length ≤ 6 := by
  unfold wordL
  generalize (plainI op).toNat = k
  rw [List.getD_eq_getElem?_getD]
  cases h : wordTab[k]? with
  | none => simp
  | some x =>
    have hm := List.mem_of_getElem? h
    have : ∀ x ∈ wordTab, x.length ≤ 6 := by decide
    exact this x hm
/-- In which order an instruction's fields are told. -/
def ordL (op : Int) : List UInt8 := if op = 34 then [98, 97, 110] else fldL op
/-- One part of an instruction; rt names a routine. -/
def partL (m : Mac) (rt : Int → List UInt8) (c : UInt8) : List UInt8 :=
  if c = 100 then 114 :: Lib.itoa m.dst else if c = 97 then 114 :: Lib.itoa m.a else if c = 98 then 114 :: Lib.itoa m.b
  else if c = 116 then 76 :: Lib.itoa m.n else if c = 114 then rt m.n else Lib.itoa m.n
def partsL (rt : Int → List UInt8) (m : Mac) : List (List UInt8) := (ordL m.op).map (partL m rt)
def lineL (rt : Int → List UInt8) (m : Mac) : List UInt8 :=
  [32, 32] ++ wordL m.op ++ (if partsL rt m = [] then [] else 32 :: Lib.join (partsL rt m) [44, 32]) ++ [10]
/-- Does an instruction go to this place? -/
def markL (l : List Mac) (i : Nat) : Bool := l.any fun m => (shK m.op == 2) && (m.n == (i : Int))
def labelL (i : Nat) : List UInt8 := 76 :: Lib.itoa i ++ [58, 10]
def pieceL (rt : Int → List UInt8) (l : List Mac) (i : Nat) : List UInt8 := (if markL l i then labelL i else []) ++ lineL rt (l.getD i ⟨0, 0, 0, 0, 0⟩)
def textTo (rt : Int → List UInt8) (l : List Mac) (k : Nat) : List UInt8 := ((List.range k).map (pieceL rt l)).flatten
def textL (rt : Int → List UInt8) (l : List Mac) : List UInt8 := textTo rt l l.length
theorem textTo_zero (rt : Int → List UInt8) (l : List Mac) : textTo rt l 0 = [] := rfl
theorem textTo_succ (rt : Int → List UInt8) (l : List Mac) (k : Nat) : textTo rt l (k + 1) = textTo rt l k ++ pieceL rt l k := by
  unfold textTo
  rw [List.range_succ, List.map_append, List.flatten_append]
  simp
theorem dec_len : ∀ (k u : Nat), 1 ≤ k → u < 10 ^ k → (Lib.decDigits u).length ≤ k
  | 0, u, h, _ => absurd h (by omega)
  | 1, u, _, h2 => by
    rw [Lib.decDigits, dif_pos (by simpa using h2)]
    simp
  | k + 2, u, _, h2 => by
    rw [Lib.decDigits]
    split
    · simp
    · rw [List.length_append]
      have := dec_len (k + 1) (u / 10) (by omega) (by rw [Nat.pow_succ] at h2; omega)
      simp
      omega
theorem itoa_len {n : Int} (h : I64 n) : (Lib.itoa n).length ≤ 20 := by
  have h1 := h.1
  have h2 := h.2
  unfold Lib.itoa
  split
  · have := dec_len 19 n.natAbs (by omega) (by omega)
    simp
    omega
  · have := dec_len 19 n.toNat (by omega) (by omega)
    omega
theorem ord_len (op : Int) : (ordL op).length ≤ 3 := by
  unfold ordL
  split
  · simp
  · have h := fld_size op
    unfold fldS at h
    simpa [ByteArray.size] using h
theorem part_len {m : Mac} {rt : Int → List UInt8} (hm : m.ok) (hr : (rt m.n).length ≤ 100) (c : UInt8) : (partL m rt c).length ≤ 100 := by
  obtain ⟨_, h1, h2, h3, h4⟩ := hm
  unfold partL
  have e1 := itoa_len h1
  have e2 := itoa_len h2
  have e3 := itoa_len h3
  have e4 := itoa_len h4
  split
  · rw [List.length_cons]; omega
  · split
    · rw [List.length_cons]; omega
    · split
      · rw [List.length_cons]; omega
      · split
        · rw [List.length_cons]; omega
        · split
          · exact hr
          · omega
theorem join_len {sep : List UInt8} {c : Nat} : ∀ {xs : List (List UInt8)}, (∀ x ∈ xs, x.length ≤ c) → (Lib.join xs sep).length ≤ xs.length * (c + sep.length)
  | [], _ => by rw [Lib.join_nil]; simp
  | x :: r, h => by
    have h0 := h x (by simp)
    have ht : (Lib.joinTail sep r).length ≤ r.length * (c + sep.length) := by
      unfold Lib.joinTail
      have hr : ∀ y ∈ r, y.length ≤ c := fun y hy => h y (by simp [hy])
      clear h h0
      induction r with
      | nil => simp
      | cons y r ih =>
        rw [List.map_cons, List.flatten_cons, List.length_append, List.length_append, List.length_cons, Nat.succ_mul]
        have h1 := hr y (by simp)
        have h2 := ih (fun z hz => hr z (by simp [hz]))
        omega
    rw [Lib.join_cons, List.length_append, List.length_cons, Nat.succ_mul]
    omega
theorem parts_join_len {m : Mac} {rt : Int → List UInt8} (hm : m.ok) (hr : (rt m.n).length ≤ 100) : (Lib.join (partsL rt m) [44, 32]).length ≤ 306 := by
  have h := join_len (sep := [44, 32]) (c := 100) (xs := partsL rt m) (fun x hx => by
    unfold partsL at hx
    obtain ⟨c, _, rfl⟩ := List.mem_map.1 hx
    exact part_len hm hr c)
  have h3 : (partsL rt m).length ≤ 3 := by unfold partsL; rw [List.length_map]; exact ord_len _
  have h4 : (partsL rt m).length * (100 + [44, 32].length) ≤ 3 * (100 + [44, 32].length) := Nat.mul_le_mul_right _ h3
  have h5 : 3 * (100 + ([44, 32] : List UInt8).length) = 306 := rfl
  omega
theorem line_len {m : Mac} {rt : Int → List UInt8} (hm : m.ok) (hr : (rt m.n).length ≤ 100) : (lineL rt m).length ≤ 400 := by
  have h1 := parts_join_len hm hr
  have h2 := word_len m.op
  unfold lineL
  simp only [List.length_append, List.length_cons, List.length_nil]
  split
  · simp; omega
  · rw [List.length_cons]; omega
theorem piece_len {l : List Mac} {rt : Int → List UInt8} (hm : ∀ m ∈ l, m.ok) (hr : ∀ m ∈ l, (rt m.n).length ≤ 100) {i : Nat} (hi : i < l.length) (h64 : l.length ≤ 9223372036854775807) : (pieceL rt l i).length ≤ 430 := by
  unfold pieceL
  have hg : l.getD i ⟨0, 0, 0, 0, 0⟩ = l[i] := by rw [List.getD_eq_getElem?_getD, List.getElem?_eq_getElem hi]; rfl
  rw [hg, List.length_append]
  have h1 := line_len (rt := rt) (hm l[i] (List.getElem_mem hi)) (hr l[i] (List.getElem_mem hi))
  have h2 := itoa_len (n := (i : Int)) ⟨by omega, by omega⟩
  split
  · unfold labelL
    simp only [List.length_append, List.length_cons, List.length_nil]
    omega
  · simp; omega
theorem textTo_len {l : List Mac} {rt : Int → List UInt8} (hm : ∀ m ∈ l, m.ok) (hr : ∀ m ∈ l, (rt m.n).length ≤ 100) (h64 : l.length ≤ 9223372036854775807) : ∀ {k : Nat}, k ≤ l.length → (textTo rt l k).length ≤ 430 * k
  | 0, _ => by simp [textTo_zero]
  | k + 1, h => by
    rw [textTo_succ, List.length_append]
    have h1 := textTo_len hm hr h64 (k := k) (by omega)
    have h2 := piece_len hm hr (i := k) (by omega) h64
    omega
end Go.Proofs.YtdldochhondifaaGreatDoor
namespace Go.Proofs.YtdldochhondifaaGreatDoor
open Go.RowKit
attribute [local go_sem] Oper.semAt_some

end Go.Proofs.YtdldochhondifaaGreatDoor
namespace Go.Proofs.YtdldochhondifaaGreatDoor
open Go.RowKit
attribute [local go_sem] Oper.semAt_some

end Go.Proofs.YtdldochhondifaaGreatDoor
