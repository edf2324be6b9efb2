/-
  Texts of the claim AsmWholeSays (MacC): what each proves stands at its theorems.
  Conditions: as the theorems say.
-/
import Derived.Test.YtdldochhondifaaGreatDoorProg
import Derived.WalkKit
import Derived.WalkSpells
import Derived.WalkLawsBesides
import Derived.Lib.Hide

namespace Go.Proofs.YtdldochhondifaaGreatDoor
open Go.RowKit

/-- An instruction of the machine. -/
structure Mac where
  op : Int
  dst : Int
  a : Int
  b : Int
  n : Int
  deriving DecidableEq

/-- Its five cells. -/
def Mac.cells (m : Mac) : List Value := [.int .i64 m.op, .int .i64 m.dst, .int .i64 m.a, .int .i64 m.b, .int .i64 m.n]

/-- A number of Go's int. -/
def I64 (n : Int) : Prop := -9223372036854775808 ≤ n ∧ n ≤ 9223372036854775807
structure Mac.ok (m : Mac) : Prop where
  op : I64 m.op
  dst : I64 m.dst
  a : I64 m.a
  b : I64 m.b
  n : I64 m.n

theorem bcell {W w1 : World} {B : Nat} (hb : Below B W w1) {b o : Nat} (h : b < B) : w1.cell? ⟨b, o, none⟩ = W.cell? ⟨b, o, none⟩ := hb.cell (p := ⟨b, o, none⟩) h
/-- The instruction m lies at offset o of block b. -/
def MacAt (w : World) (b o : Nat) (m : Mac) : Prop :=
  w.cell? ⟨b, o, none⟩ = some (.int .i64 m.op) ∧ w.cell? ⟨b, o + 1, none⟩ = some (.int .i64 m.dst) ∧ w.cell? ⟨b, o + 2, none⟩ = some (.int .i64 m.a) ∧
    w.cell? ⟨b, o + 3, none⟩ = some (.int .i64 m.b) ∧ w.cell? ⟨b, o + 4, none⟩ = some (.int .i64 m.n)
theorem MacAt.below {W w1 : World} {B b o : Nat} {m : Mac} (h : MacAt W b o m) (hb : Below B W w1) (hlt : b < B) : MacAt w1 b o m := by
  unfold MacAt at *
  simp only [bcell hb hlt]
  exact h

/-- The slice value v reads as the instructions ms, below block B. -/
def MacsAt (w : World) (B : Nat) (v : Value) (ms : List Mac) : Prop :=
  ∃ (A : Option Addr) (c : Nat), v = .slice A ms.length c ∧ ms.length ≤ c ∧ ms.length ≤ 9223372036854775807 ∧
    (0 < ms.length → ∃ b off, A = some ⟨b, off, none⟩ ∧ b < B ∧ ∀ (k : Nat) (m : Mac), ms[k]? = some m → MacAt w b (off + k * 5) m)
theorem MacsAt.below {W w1 : World} {B B' : Nat} {v : Value} {ms : List Mac} (h : MacsAt W B v ms) (hb : Below B' W w1) (hB : B ≤ B') : MacsAt w1 B v ms := by
  obtain ⟨A, c, e, h1, h2, h3⟩ := h
  refine ⟨A, c, e, h1, h2, fun hl => ?_⟩
  obtain ⟨b, off, e1, e2, e3⟩ := h3 hl
  exact ⟨b, off, e1, e2, fun k m hk => (e3 k m hk).below hb (Nat.lt_of_lt_of_le e2 hB)⟩
theorem MacsAt.more {w : World} {B B' : Nat} {v : Value} {ms : List Mac} (h : MacsAt w B v ms) (hB : B ≤ B') : MacsAt w B' v ms := by
  obtain ⟨A, c, e, h1, h2, h3⟩ := h
  refine ⟨A, c, e, h1, h2, fun hl => ?_⟩
  obtain ⟨b, off, e1, e2, e3⟩ := h3 hl
  exact ⟨b, off, e1, by omega, e3⟩

/-- The slice value v reads as the numbers xs, below block B. -/
def IntsAt (w : World) (B : Nat) (v : Value) (xs : List Int) : Prop :=
  ∃ (A : Option Addr) (c : Nat), v = .slice A xs.length c ∧ xs.length ≤ c ∧ c ≤ 9223372036854775807 ∧
    (0 < xs.length → ∃ b off, A = some ⟨b, off, none⟩ ∧ b < B ∧ ∀ (k : Nat) (x : Int), xs[k]? = some x → w.cell? ⟨b, off + k, none⟩ = some (.int .i64 x))
theorem IntsAt.below {W w1 : World} {B B' : Nat} {v : Value} {xs : List Int} (h : IntsAt W B v xs) (hb : Below B' W w1) (hB : B ≤ B') : IntsAt w1 B v xs := by
  obtain ⟨A, c, e, h1, h2, h3⟩ := h
  refine ⟨A, c, e, h1, h2, fun hl => ?_⟩
  obtain ⟨b, off, e1, e2, e3⟩ := h3 hl
  exact ⟨b, off, e1, e2, fun k m hk => (bcell hb (Nat.lt_of_lt_of_le e2 hB)).trans (e3 k m hk)⟩
theorem IntsAt.more {w : World} {B B' : Nat} {v : Value} {xs : List Int} (h : IntsAt w B v xs) (hB : B ≤ B') : IntsAt w B' v xs := by
  obtain ⟨A, c, e, h1, h2, h3⟩ := h
  refine ⟨A, c, e, h1, h2, fun hl => ?_⟩
  obtain ⟨b, off, e1, e2, e3⟩ := h3 hl
  exact ⟨b, off, e1, by omega, e3⟩

/-- Block g is just the cells cs of element type t, none frozen. -/
def Blk (w : World) (g : Nat) (t : TypeId) (cs : Array Value) : Prop := w.heap[g]? = some (.cells cs t (0, 0))
theorem Blk.lt {w : World} {g : Nat} {t : TypeId} {cs : Array Value} (h : Blk w g t cs) : g < w.heap.size := by
  rcases Nat.lt_or_ge g w.heap.size with hlt | hge
  · exact hlt
  · unfold Blk at h; rw [Array.getElem?_eq_none hge] at h; cases h
theorem Blk.cell {w : World} {g : Nat} {t : TypeId} {cs : Array Value} (h : Blk w g t cs) (i : Nat) : w.cell? ⟨g, i, none⟩ = cs[i]? := cell_of_row w g i cs t (0, 0) h
theorem Blk.frozen {w : World} {g : Nat} {t : TypeId} {cs : Array Value} (h : Blk w g t cs) (i : Nat) : w.frozen? ⟨g, i, none⟩ = false := by
  unfold Blk at h
  simp [World.frozen?, h]
theorem Blk.new (w : World) (t : TypeId) (cs : Array Value) : Blk (w.alloc (.cells cs t)) w.heap.size t cs := heap_alloc_new w _
theorem Blk.below {w w' : World} {g B : Nat} {t : TypeId} {cs : Array Value} (h : Blk w g t cs) (hb : Below B w w') (hg : g < B) : Blk w' g t cs := (hb.block g hg).trans h
theorem Blk.alloc {w : World} {g : Nat} {t : TypeId} {cs : Array Value} (h : Blk w g t cs) (o : Obj) : Blk (w.alloc o) g t cs := (Below.heap_alloc w o g h.lt).trans h
theorem Blk.set_ {w : World} {g : Nat} {t : TypeId} {cs : Array Value} (h : Blk w g t cs) (i : Nat) (u : Value) : Blk (w.setCell ⟨g, i, none⟩ u) g t (cs.setIfInBounds i u) := by
  unfold Blk at h ⊢
  simp [World.setCell, Array.getElem?_modify, h]
theorem Blk.far {w : World} {g : Nat} {t : TypeId} {cs : Array Value} (h : Blk w g t cs) {p : Addr} (hp : g ≠ p.block) (u : Value) : Blk (w.setCell p u) g t cs := (Below.heap_setCell w p u g hp).trans h
theorem Blk.set2 {w : World} {g : Nat} {t : TypeId} {x0 x1 : Value} (h : Blk w g t #[x0, x1]) (u v : Value) : Blk ((w.setCell ⟨g, 0, none⟩ u).setCell ⟨g, 1, none⟩ v) g t #[u, v] := (h.set_ 0 u).set_ 1 v
/-- The end of a function whose one result lies in a cell. -/
theorem end_cell {P : Program} {fn : Func} {R : Ending → World → Prop} {a : Act} {w : World} {p : Tmp} {ty t : TypeId} {g : Nat} {cs : Array Value} {d : TypeDesc} (h : fn.results = #[.cell p ty])
    (hp : a.tmps.getD p undef = .pointer (some ⟨g, 0, none⟩)) (hb : Blk w g t cs) (hu : P.underlying ty = some d) (hd : (match d with | .struct _ | .array _ _ => true | _ => false) = true)
    (hi : (P.info? ty).map (·.size) = some cs.size) (hdf : a.defers = []) (hR : R (.returned (.agg cs)) w) : bodyPost P fn R .ret a w :=
  bodyPost_ret (results_cell_row h _ _ g t cs (0, 0) d hp hb hu hd hi) hdf hR
/-- The end of a function whose second result lies in a cell. -/
theorem end_tmp_cell {P : Program} {fn : Func} {R : Ending → World → Prop} {a : Act} {w : World} {q p : Tmp} {ty t : TypeId} {g : Nat} {cs : Array Value} {d : TypeDesc} (h : fn.results = #[.tmp q, .cell p ty])
    (hp : a.tmps.getD p undef = .pointer (some ⟨g, 0, none⟩)) (hb : Blk w g t cs) (hu : P.underlying ty = some d) (hd : (match d with | .struct _ | .array _ _ => true | _ => false) = true)
    (hi : (P.info? ty).map (·.size) = some cs.size) (hdf : a.defers = []) (hR : R (.returned (.tuple #[a.tmps.getD q undef, .agg cs])) w) : bodyPost P fn R .ret a w := by
  refine bodyPost_ret (v := .tuple #[a.tmps.getD q undef, .agg cs]) ?_ hdf hR
  have hp' : a.tmps[p]?.getD undef = .pointer (some ⟨g, 0, none⟩) := by simpa using hp
  simp [results, h, hp', asAddr, run_loadVar_row w g t ty cs (0, 0) d hb hu hd hi]

theorem ret_int {k : IntKind} {a b : Int} (h : a = b) : Ending.returned (.int k a) = .returned (.int k b) := by rw [h]
theorem ret_bool {a b : Bool} (h : a = b) : Ending.returned (.bool a) = .returned (.bool b) := by rw [h]
theorem ret_str {a b : ByteArray} (h : a = b) : Ending.returned (.string a) = .returned (.string b) := by rw [h]

end Go.Proofs.YtdldochhondifaaGreatDoor
namespace Go.Proofs.YtdldochhondifaaGreatDoor
open Go.RowKit

/-- What a register's field is worth: 0, or a fault. -/
def fieldS (u : Bool) (r : Int) : Int := if u then (if r < 0 ∨ 16 ≤ r then 3 else 0) else if r = 0 then 0 else 5
set_option maxHeartbeats 400000 in
theorem field_any (u : Bool) (r : Int) (w : World) :
    Calls Tryz.prog 115 #[.bool u, .int .i64 r] w fun e w' => e = .returned (.int .i64 (fieldS u r)) ∧ w = w' := by
  cases u
  all_goals
    go_enter Tryz.func115, Tryz.ntmps115
    go_wp2
    all_goals (go_ret; refine ⟨ret_int ?_, rfl⟩; unfold fieldS; simp at *; try omega)

/-- What a number's field is worth. -/
def numberS (kind n many : Int) : Int :=
  if kind = 1 then 0 else if kind = 0 then (if n = 0 then 0 else 5) else if kind = 3 then (if n < 0 ∨ 120 ≤ n then 3 else 0)
  else if kind = 4 then (if n < 0 then 3 else 0) else (if n < 0 ∨ many ≤ n then 3 else 0)
set_option maxHeartbeats 400000 in
theorem number_any (kind n many : Int) (w : World) :
    Calls Tryz.prog 116 #[.int .i64 kind, .int .i64 n, .int .i64 many] w fun e w' => e = .returned (.int .i64 (numberS kind n many)) ∧ w = w' := by
  go_enter Tryz.func116, Tryz.ntmps116
  go_wp2
  all_goals (go_ret; refine ⟨ret_int ?_, rfl⟩; unfold numberS; simp at *; try (first | omega | (subst_vars; simp; omega) | (simp_all; try omega)))

/-- The fields that an Op speaks of, as the reference tells them. -/
def fldTab : List (List UInt8) := [[63], [100, 110], [100, 97], [100, 97], [100, 97], [], [], [], [], [], [], [], [], [], [], [], [], [], [], [], [], [], [], [], [], [], [], [], [], [], [], [], [],
  [100, 97, 110], [97, 98, 110], [100, 119], [97, 119], [116], [97, 116], [97, 116], [], [], [], [], [114], [], [100], [97]]
def fldL (op : Int) : List UInt8 :=
  if op < 1 ∨ 47 < op then [63] else if 5 ≤ op ∧ op ≤ 18 then [100, 97, 98] else if 19 ≤ op ∧ op ≤ 32 then [100, 97, 110] else if 40 ≤ op ∧ op ≤ 43 then [97, 98, 116]
  else fldTab.getD op.toNat []
def fldS (op : Int) : ByteArray := ⟨(fldL op).toArray⟩
theorem fld_tab (op : Int) (h : 1 ≤ op ∧ op ≤ 47) (h1 : ¬ (5 ≤ op ∧ op ≤ 18)) (h2 : ¬ (19 ≤ op ∧ op ≤ 32)) (h3 : ¬ (40 ≤ op ∧ op ≤ 43)) :
    [Value.string { data := #[63] }, Value.string { data := #[100, 110] }, Value.string { data := #[100, 97] }, Value.string { data := #[100, 97] }, Value.string { data := #[100, 97] }, Value.string { data := #[] }, Value.string { data := #[] }, Value.string { data := #[] }, Value.string { data := #[] }, Value.string { data := #[] }, Value.string { data := #[] }, Value.string { data := #[] }, Value.string { data := #[] }, Value.string { data := #[] }, Value.string { data := #[] }, Value.string { data := #[] }, Value.string { data := #[] }, Value.string { data := #[] }, Value.string { data := #[] }, Value.string { data := #[] }, Value.string { data := #[] }, Value.string { data := #[] }, Value.string { data := #[] }, Value.string { data := #[] }, Value.string { data := #[] }, Value.string { data := #[] }, Value.string { data := #[] }, Value.string { data := #[] }, Value.string { data := #[] }, Value.string { data := #[] }, Value.string { data := #[] }, Value.string { data := #[] }, Value.string { data := #[] }, Value.string { data := #[100, 97, 110] }, Value.string { data := #[97, 98, 110] }, Value.string { data := #[100, 119] }, Value.string { data := #[97, 119] }, Value.string { data := #[116] }, Value.string { data := #[97, 116] }, Value.string { data := #[97, 116] }, Value.string { data := #[] }, Value.string { data := #[] }, Value.string { data := #[] }, Value.string { data := #[] }, Value.string { data := #[114] }, Value.string { data := #[] }, Value.string { data := #[100] }, Value.string { data := #[97] }][op.toNat]? = some (.string (fldS op)) := by
  obtain rfl | rfl | rfl | rfl | rfl | rfl | rfl | rfl | rfl | rfl | rfl | rfl | rfl | rfl | rfl :
    op = 1 ∨ op = 2 ∨ op = 3 ∨ op = 4 ∨ op = 33 ∨ op = 34 ∨ op = 35 ∨ op = 36 ∨ op = 37 ∨ op = 38 ∨ op = 39 ∨ op = 44 ∨ op = 45 ∨ op = 46 ∨ op = 47 := by omega
  all_goals rfl
theorem fld_lo (op : Int) (h : op < 1 ∨ 47 < op) : fldS op = ⟨#[63]⟩ := by unfold fldS fldL; rw [if_pos h]
theorem fld_two (op : Int) (h : 5 ≤ op ∧ op ≤ 18) : fldS op = ⟨#[100, 97, 98]⟩ := by unfold fldS fldL; rw [if_neg (by omega), if_pos h]
theorem fld_num (op : Int) (h : 19 ≤ op ∧ op ≤ 32) : fldS op = ⟨#[100, 97, 110]⟩ := by unfold fldS fldL; rw [if_neg (by omega), if_neg (by omega), if_pos h]
theorem fld_jmp (op : Int) (h : 40 ≤ op ∧ op ≤ 43) : fldS op = ⟨#[97, 98, 116]⟩ := by unfold fldS fldL; rw [if_neg (by omega), if_neg (by omega), if_neg (by omega), if_pos h]
set_option maxHeartbeats 1000000 in
theorem Fields_any (op : Int) (w : World) :
    Calls Tryz.prog 75 #[.int .i64 op] w fun e w' => e = .returned (.string (fldS op)) ∧ Below w.heap.size w w' := by
  by_cases h0 : op < 1 ∨ 47 < op
  · have hf := Lib.hid (fld_lo op h0)
    rcases h0 with h0 | h0
    all_goals
      go_enter Tryz.func75, Tryz.ntmps75
      go_wp2
      go_ret
      exact ⟨ret_str hf.out.symm, Below.refl _ _⟩
  · have h1 : 1 ≤ op := by omega
    have h47 : op ≤ 47 := by omega
    by_cases h2 : 5 ≤ op ∧ op ≤ 18
    · have hf := Lib.hid (fld_two op h2)
      obtain ⟨ha, hb⟩ := h2
      clear h0
      go_enter Tryz.func75, Tryz.ntmps75
      go_wp2
      go_ret
      exact ⟨ret_str hf.out.symm, Below.refl _ _⟩
    by_cases h3 : 19 ≤ op ∧ op ≤ 32
    · have hf := Lib.hid (fld_num op h3)
      obtain ⟨ha, hb⟩ := h3
      clear h0
      go_enter Tryz.func75, Tryz.ntmps75
      go_wp2
      go_ret
      exact ⟨ret_str hf.out.symm, Below.refl _ _⟩
    by_cases h4 : 40 ≤ op ∧ op ≤ 43
    · have hf := Lib.hid (fld_jmp op h4)
      obtain ⟨ha, hb⟩ := h4
      clear h0
      go_enter Tryz.func75, Tryz.ntmps75
      go_wp2
      go_ret
      exact ⟨ret_str hf.out.symm, Below.refl _ _⟩
    · have hT := fld_tab op ⟨h1, h47⟩ h2 h3 h4
      clear h0
      rcases (by omega : op < 5 ∨ (32 < op ∧ op < 40) ∨ 43 < op) with ha | ⟨ha, hb⟩ | ha
      all_goals
        go_enter Tryz.func75, Tryz.ntmps75
        go_wp2
        go_ret
        exact ⟨rfl, (Below.refl _ _).alloc (Nat.le_refl _) _⟩

/-- Has a text a byte? -/
def hasS (s : ByteArray) (c : Int) : Bool := s.data.toList.any fun x => ((x.toNat : Int) == c)
theorem hasS_yes (s : ByteArray) (c : Int) (k : Nat) (h : k < s.size) (e : (s[k].toNat : Int) = c) : hasS s c = true := by
  unfold hasS
  rw [List.any_eq_true]
  exact ⟨s[k], by simp [ByteArray.getElem_eq_getElem_data], by simp [e]⟩
theorem hasS_no (s : ByteArray) (c : Int) (h : ∀ (k : Nat) (hk : k < s.size), (s[k].toNat : Int) ≠ c) : hasS s c = false := by
  unfold hasS
  rw [List.any_eq_false]
  intro x hx
  obtain ⟨i, hi, rfl⟩ := List.mem_iff_getElem.1 hx
  have := h i (by simpa using hi)
  simpa [ByteArray.getElem_eq_getElem_data] using this
set_option maxHeartbeats 400000 in
theorem Has_any (s : ByteArray) (c : Int) (w : World) (hs : s.size ≤ 9223372036854775807) :
    Calls Tryz.prog 76 #[.string s, .int .u8 c] w fun e w' => e = .returned (.bool (hasS s c)) ∧ w = w' := by
  go_enter Tryz.func76, Tryz.ntmps76
  go_wp2
  go_loop [5] (fun i => ∃ k : Nat, k ≤ s.size ∧ i = .int .i64 k ∧ Hid (∀ (j : Nat) (hj : j < s.size), j < k → (s[j].toNat : Int) ≠ c)) (fun i => s.size - (intOf i).toNat)
  case atStart => exact ⟨0, Nat.zero_le _, rfl, Lib.hid (fun j _ h => absurd h (Nat.not_lt_zero j))⟩
  case round =>
    obtain ⟨k, hk, rfl, H⟩ := hrel
    by_cases hlt : k < s.size
    · by_cases he : (s[k].toNat : Int) = c
      · have Hy := Lib.hid (hasS_yes s c k hlt he)
        have hb : ((s[k].toNat : Int) == c) = true := by simp [he]
        clear he
        go_wp2
        go_ret
        exact ⟨ret_bool Hy.out.symm, rfl⟩
      · have hb : ((s[k].toNat : Int) == c) = false := by simp [he]
        have He := Lib.hid he
        clear he
        go_wp2
        go_round
        case rel =>
          refine ⟨k + 1, by omega, by go_num, Lib.hid fun j hj hjk => ?_⟩
          rcases Nat.lt_or_ge j k with h | h
          · exact H.out j hj h
          · obtain rfl : j = k := by omega
            exact He.out
        case measure => simp [intOf]; omega
    · have Hn := Lib.hid (hasS_no s c fun j hj => H.out j hj (by omega))
      go_wp2
      go_ret
      exact ⟨ret_bool Hn.out.symm, rfl⟩
end Go.Proofs.YtdldochhondifaaGreatDoor
namespace Go.Proofs.YtdldochhondifaaGreatDoor
open Go.RowKit

/-- The shape of an Op: which registers it speaks of; what its number is. -/
def shD (op : Int) : Bool := hasS (fldS op) 100
def shA (op : Int) : Bool := hasS (fldS op) 97
def shB (op : Int) : Bool := hasS (fldS op) 98
def shK (op : Int) : Int := if hasS (fldS op) 110 then 1 else if hasS (fldS op) 116 then 2 else if hasS (fldS op) 119 then 3 else if hasS (fldS op) 114 then 4 else 0
/-- Is it one that the table is asked for? -/
def inTab (k : Int) : Prop := 1 ≤ k ∧ k ≤ 47 ∧ ¬ (5 ≤ k ∧ k ≤ 18) ∧ ¬ (19 ≤ k ∧ k ≤ 32) ∧ ¬ (40 ≤ k ∧ k ≤ 43)
/-- The table shapes lies in block 1. -/
def Tab (w : World) : Prop := 1 < w.heap.size ∧ ∀ k : Int, inTab k →
  w.cell? ⟨1, k.toNat * 4, none⟩ = some (.bool (shD k)) ∧ w.cell? ⟨1, k.toNat * 4 + 1, none⟩ = some (.bool (shA k)) ∧
  w.cell? ⟨1, k.toNat * 4 + 2, none⟩ = some (.bool (shB k)) ∧ w.cell? ⟨1, k.toNat * 4 + 3, none⟩ = some (.int .i64 (shK k))
theorem Tab.below {W w : World} {B : Nat} (h : Tab W) (hb : Below B W w) (hB : 1 < B) (hz : B ≤ w.heap.size) : Tab w := by
  refine ⟨by omega, fun k hk => ?_⟩
  simp only [bcell hb hB]
  exact h.2 k hk
theorem Tab.own {W w : World} (h : Tab W) (hb : Below W.heap.size W w) : Tab w := h.below hb h.1 hb.size
theorem sh_lo (op : Int) (h : op < 1 ∨ 47 < op) : shD op = false ∧ shA op = false ∧ shB op = false ∧ shK op = 0 := by
  unfold shD shA shB shK; rw [fld_lo op h]; decide
theorem sh_two (op : Int) (h : 5 ≤ op ∧ op ≤ 18) : shD op = true ∧ shA op = true ∧ shB op = true ∧ shK op = 0 := by
  unfold shD shA shB shK; rw [fld_two op h]; decide
theorem sh_num (op : Int) (h : 19 ≤ op ∧ op ≤ 32) : shD op = true ∧ shA op = true ∧ shB op = false ∧ shK op = 1 := by
  unfold shD shA shB shK; rw [fld_num op h]; decide
theorem sh_jmp (op : Int) (h : 40 ≤ op ∧ op ≤ 43) : shD op = false ∧ shA op = true ∧ shB op = true ∧ shK op = 2 := by
  unfold shD shA shB shK; rw [fld_jmp op h]; decide
theorem ret_sh {op : Int} {d a b : Bool} {k : Int} {x y : Bool} (h : shD op = d ∧ shA op = a ∧ shB op = b ∧ shK op = k) (hx : x = y) :
    Ending.returned (.tuple #[.agg #[.bool d, .bool a, .bool b, .int .i64 k], .bool x]) = .returned (.tuple #[.agg #[.bool (shD op), .bool (shA op), .bool (shB op), .int .i64 (shK op)], .bool y]) := by
  rw [hx, h.1, h.2.1, h.2.2.1, h.2.2.2]
/-- Is there such an Op? -/
def isOp (op : Int) : Bool := decide (1 ≤ op ∧ op ≤ 47)

set_option maxHeartbeats 1000000 in
theorem Of_any (op : Int) (w : World) (ht : Tab w) :
    Calls Tryz.prog 77 #[.int .i64 op] w fun e w' => e = .returned (.tuple #[.agg #[.bool (shD op), .bool (shA op), .bool (shB op), .int .i64 (shK op)], .bool (isOp op)]) ∧ Below w.heap.size w w' := by
  by_cases h0 : op < 1 ∨ 47 < op
  · have hf := Lib.hid (sh_lo op h0)
    have hi := Lib.hid (show false = isOp op by unfold isOp; simp; omega)
    clear ht
    rcases h0 with h0 | h0
    all_goals
      go_enter Tryz.func77, Tryz.ntmps77
      go_wp2
      exact bodyPost_ret (v := .tuple #[.agg #[.bool false, .bool false, .bool false, .int .i64 0], .bool false]) (by simp [results, Tryz.results77, go_sem]) rfl ⟨ret_sh hf.out hi.out, (Below.refl _ _).alloc (Nat.le_refl _) _⟩
  · have h1 : 1 ≤ op := by omega
    have h47 : op ≤ 47 := by omega
    have hi := Lib.hid (show true = isOp op by unfold isOp; simp; omega)
    by_cases h2 : 5 ≤ op ∧ op ≤ 18
    · have hf := Lib.hid (sh_two op h2)
      obtain ⟨ha, hb⟩ := h2
      clear h0 ht
      go_enter Tryz.func77, Tryz.ntmps77
      go_wp2
      exact bodyPost_ret (v := .tuple #[.agg #[.bool true, .bool true, .bool true, .int .i64 0], .bool true]) (by simp [results, Tryz.results77, go_sem]) rfl ⟨ret_sh hf.out hi.out, (Below.refl _ _).alloc (Nat.le_refl _) _⟩
    by_cases h3 : 19 ≤ op ∧ op ≤ 32
    · have hf := Lib.hid (sh_num op h3)
      obtain ⟨ha, hb⟩ := h3
      clear h0 ht
      go_enter Tryz.func77, Tryz.ntmps77
      go_wp2
      exact bodyPost_ret (v := .tuple #[.agg #[.bool true, .bool true, .bool false, .int .i64 1], .bool true]) (by simp [results, Tryz.results77, go_sem]) rfl ⟨ret_sh hf.out hi.out, (Below.refl _ _).alloc (Nat.le_refl _) _⟩
    by_cases h4 : 40 ≤ op ∧ op ≤ 43
    · have hf := Lib.hid (sh_jmp op h4)
      obtain ⟨ha, hb⟩ := h4
      clear h0 ht
      go_enter Tryz.func77, Tryz.ntmps77
      go_wp2
      exact bodyPost_ret (v := .tuple #[.agg #[.bool false, .bool true, .bool true, .int .i64 2], .bool true]) (by simp [results, Tryz.results77, go_sem]) rfl ⟨ret_sh hf.out hi.out, (Below.refl _ _).alloc (Nat.le_refl _) _⟩
    · obtain ⟨hz, hcells⟩ := ht
      obtain ⟨c0, c1, c2, c3⟩ := hcells op ⟨h1, h47, h2, h3, h4⟩
      clear h0 hcells
      rcases (by omega : op < 5 ∨ (32 < op ∧ op < 40) ∨ 43 < op) with ha | ⟨ha, hb⟩ | ha
      all_goals
        go_enter Tryz.func77, Tryz.ntmps77
        go_wp2
        exact bodyPost_ret (v := .tuple #[.agg #[.bool (shD op), .bool (shA op), .bool (shB op), .int .i64 (shK op)], .bool true]) (by simp [results, Tryz.results77, go_sem]) rfl ⟨ret_sh ⟨rfl, rfl, rfl, rfl⟩ hi.out, (Below.refl _ _).alloc (Nat.le_refl _) _⟩

end Go.Proofs.YtdldochhondifaaGreatDoor
namespace Go.Proofs.YtdldochhondifaaGreatDoor
open Go.RowKit

/-- The first place of a number; -1: it stands nowhere. -/
def idxS (xs : List Int) (x : Int) : Int := match xs.findIdx? (· == x) with | some k => (k : Int) | none => -1
theorem idxS_yes (xs : List Int) (x : Int) (k : Nat) (h : xs[k]? = some x) (hb : ∀ j, j < k → xs[j]? ≠ some x) : idxS xs x = k := by
  unfold idxS
  have : xs.findIdx? (· == x) = some k := by
    obtain ⟨hk, he⟩ := List.getElem?_eq_some_iff.1 h
    rw [List.findIdx?_eq_some_iff_getElem]
    refine ⟨hk, by simp [he], fun j hj => ?_⟩
    have := hb j hj
    rw [List.getElem?_eq_getElem (by omega)] at this
    simpa using this
  rw [this]
theorem idxS_no (xs : List Int) (x : Int) (h : ∀ j, j < xs.length → xs[j]? ≠ some x) : idxS xs x = -1 := by
  unfold idxS
  have : xs.findIdx? (· == x) = none := by
    rw [List.findIdx?_eq_none_iff]
    intro y hy
    obtain ⟨j, hj, rfl⟩ := List.mem_iff_getElem.1 hy
    have := h j hj
    rw [List.getElem?_eq_getElem hj] at this
    simpa using this
  rw [this]
theorem idxS_mem (xs : List Int) (x : Int) : decide (0 ≤ idxS xs x) = decide (x ∈ xs) := by
  unfold idxS
  by_cases h : x ∈ xs
  · have : ∃ k, xs.findIdx? (· == x) = some k := by
      rcases hh : xs.findIdx? (· == x) with _ | k
      · rw [List.findIdx?_eq_none_iff] at hh
        have := hh x h
        simp at this
      · exact ⟨k, rfl⟩
    obtain ⟨k, hk⟩ := this
    rw [hk]; simp [h]
  · have : xs.findIdx? (· == x) = none := by
      rw [List.findIdx?_eq_none_iff]
      intro y hy
      have : y ≠ x := fun e => h (e ▸ hy)
      simpa using this
    rw [this]; simp [h]

set_option maxHeartbeats 400000 in
theorem Index_any (v : Value) (xs : List Int) (x : Int) (w : World) (B : Nat) (hv : IntsAt w B v xs) :
    Calls Tryz.prog 152 #[v, .int .i64 x] w fun e w' => e = .returned (.int .i64 (idxS xs x)) ∧ w = w' := by
  obtain ⟨A, c, rfl, h1, h2, h3⟩ := hv
  have HR := Lib.hid h3
  clear h3
  go_enter Tryz.func152, Tryz.ntmps152
  go_wp2
  go_loop [8] (fun i => ∃ k : Nat, k ≤ xs.length ∧ i = .int .i64 k ∧ Hid (∀ j, j < k → xs[j]? ≠ some x)) (fun i => xs.length - (intOf i).toNat)
  case atStart => exact ⟨0, Nat.zero_le _, rfl, Lib.hid (fun j h => absurd h (Nat.not_lt_zero j))⟩
  case round =>
    obtain ⟨k, hk, rfl, H⟩ := hrel
    by_cases hlt : k < xs.length
    · obtain ⟨b, off, rfl, _, hc⟩ := HR.out (by omega)
      obtain ⟨y, hy⟩ : ∃ y, xs[k]? = some y := ⟨xs[k], List.getElem?_eq_getElem hlt⟩
      have hcell := hc k y hy
      have Hy := Lib.hid hy
      clear hc hy
      by_cases he : y = x
      · subst he
        have Hi := Lib.hid (idxS_yes xs y k Hy.out H.out)
        go_wp2
        go_ret
        exact ⟨ret_int Hi.out.symm, rfl⟩
      · have hb : (x == y) = false := by simp; omega
        have He := Lib.hid he
        clear he
        go_wp2
        go_round
        case rel =>
          refine ⟨k + 1, by omega, by go_num, Lib.hid fun j hjk => ?_⟩
          rcases Nat.lt_or_ge j k with h | h
          · exact H.out j h
          · obtain rfl : j = k := by omega
            rw [Hy.out]
            intro e
            exact He.out (Option.some.inj e)
        case measure => simp [intOf]; omega
    · have Hi := Lib.hid (idxS_no xs x fun j hj => H.out j (by omega))
      go_wp2
      go_ret
      exact ⟨ret_int Hi.out.symm, rfl⟩

set_option maxHeartbeats 400000 in
theorem Contains_any (v : Value) (xs : List Int) (x : Int) (w : World) (B : Nat) (hv : IntsAt w B v xs) :
    Calls Tryz.prog 117 #[v, .int .i64 x] w fun e w' => e = .returned (.bool (decide (x ∈ xs))) ∧ w = w' := by
  have Hm := Lib.hid (idxS_mem xs x)
  have HV := Lib.hid hv
  clear hv
  go_enter Tryz.func117, Tryz.ntmps117
  go_wp2_with (go_at_call 152; refine (Index_any _ xs _ _ _ HV.out).mono ?_; rintro e w' ⟨rfl, rfl⟩)
  go_ret
  exact ⟨ret_bool Hm.out, rfl⟩

/-- The greatest of a list's numbers. -/
def maxS (x : Int) (xs : List Int) : Int := xs.foldl (fun m y => if y > m then y else m) x
theorem maxS_snoc (x : Int) (xs : List Int) (y : Int) : maxS x (xs ++ [y]) = if y > maxS x xs then y else maxS x xs := by simp [maxS]
theorem take_snoc' {α : Type} (xs : List α) (k : Nat) (y : α) (h : xs[k]? = some y) : xs.take (k + 1) = xs.take k ++ [y] := by
  obtain ⟨hk, he⟩ := List.getElem?_eq_some_iff.1 h
  rw [List.take_succ_eq_append_getElem hk, he]
set_option maxHeartbeats 400000 in
theorem Max_any (v : Value) (x : Int) (xs : List Int) (w : World) (B : Nat) (hv : IntsAt w B v (x :: xs)) :
    Calls Tryz.prog 118 #[v] w fun e w' => e = .returned (.int .i64 (maxS x xs)) ∧ w = w' := by
  obtain ⟨A, c, rfl, h1, h2, h3⟩ := hv
  obtain ⟨b, off, rfl, _, hc⟩ := h3 (by simp)
  have hc0 : w.cell? ⟨b, off, none⟩ = some (.int .i64 x) := by simpa using hc 0 x rfl
  have HC := Lib.hid hc
  clear hc h3
  obtain ⟨n, hn⟩ : ∃ n, (x :: xs).length = n := ⟨_, rfl⟩
  have Hn := Lib.hid hn
  have hl : xs.length < n := by rw [← hn]; simp
  have hl1 : n ≤ xs.length + 1 := by rw [← hn]; simp
  rw [hn] at h1 ⊢
  clear hn
  go_enter Tryz.func118, Tryz.ntmps118
  go_wp2
  go_loop [3, 4] (fun m i => ∃ k : Nat, k ≤ xs.length ∧ i = .int .i64 ((k : Int) + 1) ∧ m = .int .i64 (maxS x (xs.take k))) (fun _ i => n - (intOf i).toNat)
  case atStart => exact ⟨0, Nat.zero_le _, rfl, rfl⟩
  case round =>
    obtain ⟨k, hk, rfl, rfl⟩ := hrel
    by_cases hlt : k < xs.length
    · obtain ⟨y, hy⟩ : ∃ y, xs[k]? = some y := ⟨xs[k], List.getElem?_eq_getElem hlt⟩
      have hcell := HC.out (k + 1) y (by simpa using hy)
      have Hs := Lib.hid (maxS_snoc x (xs.take k) y)
      have Ht := Lib.hid (take_snoc' xs k y hy)
      clear hy
      go_wp2
      go_round
      case rel => exact ⟨k + 1, by omega, by go_num, by rw [Ht.out, Hs.out]⟩
      case measure => simp [intOf]; omega
    · go_wp2
      go_ret
      exact ⟨ret_int (by rw [List.take_of_length_le (by omega)]), rfl⟩
end Go.Proofs.YtdldochhondifaaGreatDoor
