/-
  Texts of the claim AsmWholeFixed (AsA): what each proves stands at its theorems.
  Conditions: as the theorems say.
-/
import Derived.Lib.AppendIntMem
import Derived.Lib.OthersKept
import Derived.BigQuiet
import Derived.BigRegion
import Derived.Deep.QuietTactic
import Derived.Test.YtdldochhondifaaGreatDoorWAsF
import Derived.Test.YtdldochhondifaaGreatDoorWShs
import Derived.Test.YtdldochhondifaaGreatDoorWKitD
import Derived.Test.YtdldochhondifaaGreatDoorWIng
namespace Go.Proofs.YtdldochhondifaaGreatDoor
open Go.RowKit
attribute [local go_sem] Oper.semAt_some

/-- The table of tens lies as the program's text lays it. -/
def Pow (w : World) : Prop := Lib.TabIs Tryz.prog w "internal/strconv.uint64pow10" .u64 Lib.pow10Tab
theorem Pow.own {W w : World} (h : Pow W) (hb : Below W.heap.size W w) : Pow w := Lib.tabBelow_of_tabIs h w hb
theorem gPow : Tryz.prog.globalNamed "internal/strconv.uint64pow10" = some 5 := by kernel_rfl
theorem Pow.below {W w : World} {B : Nat} (h : Pow W) (hb : Below B W w) (hB : 5 < B) : Pow w := by
  unfold Pow Lib.TabIs World.var? at *
  rw [gPow] at h ⊢
  simp only [Option.bind_some] at h ⊢
  rw [hb.block _ hB]
  exact h
/-- The words lie in block 0. -/
def Wrd (w : World) : Prop := 0 < w.heap.size ∧ ∀ (k : Nat) (x : List UInt8), wordTab[k]? = some x → w.cell? ⟨0, k, none⟩ = some (.string (mkS x))
theorem Wrd.below {W w : World} {B : Nat} (h : Wrd W) (hb : Below B W w) (hB : 0 < B) (hz : B ≤ w.heap.size) : Wrd w :=
  ⟨by omega, fun k x hk => (bcell hb hB).trans (h.2 k x hk)⟩
theorem Wrd.own {W w : World} (h : Wrd W) (hb : Below W.heap.size W w) : Wrd w := h.below hb h.1 hb.size
theorem Itoa_any (n : Int) (hn : I64 n) (w : World) (hp : Pow w) :
    Calls Tryz.prog 34 #[.int .i64 n] w fun e w' => e = .returned (.string (mkS (Lib.itoa n))) ∧ Below w.heap.size w w' := by
  refine (Tryz.strconv_Itoa n hn.1 hn.2 w hp).mono ?_
  rintro e w' ⟨rfl, k, os, rfl⟩
  exact ⟨rfl, Lib.below_grow _ w (Nat.le_refl _) k os⟩
set_option maxRecDepth 100000 in
theorem label_any (n : Int) (hn : I64 n) (w : World) (hp : Pow w) :
    Calls Tryz.prog 78 #[.int .i64 n] w fun e w' => e = .returned (.string (mkS (76 :: Lib.itoa n))) ∧ Below w.heap.size w w' := by
  have HI := Lib.hid (Itoa_any n hn w hp)
  have hl := itoa_len hn
  have hs : (mkS (Lib.itoa n)).size ≤ 20 := by rw [mkS_size]; exact hl
  have hsz : ¬ (1 : Nat) + (mkS (Lib.itoa n)).size > 9223372036854775807 := by omega
  go_enter Tryz.func78, Tryz.ntmps78
  go_wp2_with fail
  refine HI.out.mono ?_
  rintro e w' ⟨rfl, hb⟩
  go_wp2_with fail
  go_ret
  exact ⟨ret_str (mkS_append [76] _), hb⟩
set_option maxRecDepth 100000 in
theorem reg_any (n : Int) (hn : I64 n) (w : World) (hp : Pow w) :
    Calls Tryz.prog 119 #[.int .i64 n] w fun e w' => e = .returned (.string (mkS (114 :: Lib.itoa n))) ∧ Below w.heap.size w w' := by
  have HI := Lib.hid (Itoa_any n hn w hp)
  have hl := itoa_len hn
  have hs : (mkS (Lib.itoa n)).size ≤ 20 := by rw [mkS_size]; exact hl
  have hsz : ¬ (1 : Nat) + (mkS (Lib.itoa n)).size > 9223372036854775807 := by omega
  go_enter Tryz.func119, Tryz.ntmps119
  go_wp2_with fail
  refine HI.out.mono ?_
  rintro e w' ⟨rfl, hb⟩
  go_wp2_with fail
  go_ret
  exact ⟨ret_str (mkS_append [114] _), hb⟩
set_option maxRecDepth 100000 in
theorem plain_any (op : Int) (h : isOp op = true) (w : World) :
    Calls Tryz.prog 79 #[.int .i64 op] w fun e w' => e = .returned (.int .i64 (plainI op)) ∧ w = w' := by
  obtain ⟨h1, h2⟩ := (isOp_iff op).1 h
  by_cases hp : 19 ≤ op ∧ op ≤ 32
  · have HE : Hid (plainI op = op - 14) := Lib.hid (by unfold plainI; rw [if_pos hp])
    obtain ⟨h3, h4⟩ := hp
    go_enter Tryz.func79, Tryz.ntmps79
    go_wp2
    go_ret
    refine ⟨ret_int ?_, rfl⟩
    rw [HE.out]
    omega
  · have HE : Hid (plainI op = op) := Lib.hid (by unfold plainI; rw [if_neg hp])
    rcases (by omega : op < 19 ∨ 32 < op) with h3 | h3
    all_goals
      clear hp
      go_enter Tryz.func79, Tryz.ntmps79
      go_wp2
      go_ret
      exact ⟨ret_int HE.out.symm, rfl⟩

/-- A row of texts that the call owns. -/
def OwnS (w : World) (base : Nat) (v : Value) (ss : List (List UInt8)) : Prop := w.ownsRow base 9 1 v ss.length (ss.map fun l => Value.string (mkS l))
theorem OwnS.nil (w : World) (base : Nat) : OwnS w base (.slice none 0 0) [] := World.ownsRow_nil w base 9 1
theorem OwnS.below {w w' : World} {base : Nat} {v : Value} {ss : List (List UInt8)} (h : OwnS w base v ss) (hb : Below w.heap.size w w') : OwnS w' base v ss := by
  refine World.ownsRow.kept (row := none) h ⟨hb.os, hb.tape, hb.output, hb.size, fun k hk _ => hb.block k hk⟩ ?_
  cases v.ownBlock <;> simp
theorem OwnS.snoc {w : World} {base : Nat} {v : Value} {ss : List (List UInt8)} {s : List UInt8} (h : w.ownsRow base 9 1 v (ss.length + 1) (ss.map (fun l => Value.string (mkS l)) ++ [.string (mkS s)])) : OwnS w base v (ss ++ [s]) := by
  unfold OwnS
  rw [List.length_append, List.map_append]
  exact h
theorem infoStr : (Tryz.prog.info? 9).map (fun i => (i.zero, i.size, i.bytes)) = some (some (.string ⟨#[]⟩), 1, 16) := by kernel_rfl

/-- The builder's type, the bytes' type. -/
abbrev BldF (B b : Nat) (l : List UInt8) (w : World) : Prop := Lib.IsBuilderF 87 5 B b (Lib.byteCells l) w
theorem bldAt_below {T e : TypeId} {B b : Nat} {p : Value} {bs : List Value} {w w' : World} (h : Lib.BuilderAtF T e B b p bs w) (hb : Below w.heap.size w w') : Lib.BuilderAtF T e B b p bs w' := by
  obtain ⟨h1, v, h2, h3, h4⟩ := h
  refine ⟨h1, v, (hb.block b ?_).trans h2, h3.kept (row := none) ⟨hb.os, hb.tape, hb.output, hb.size, fun k hk _ => hb.block k hk⟩ ?_, h4⟩
  · rcases Nat.lt_or_ge b w.heap.size with h' | h'
    · exact h'
    · rw [Array.getElem?_eq_none h'] at h2; cases h2
  · cases v.ownBlock <;> simp
theorem bld_below {B b : Nat} {l : List UInt8} {w w' : World} (h : BldF B b l w) (hb : Below w.heap.size w w') : BldF B b l w' := h.elim (fun x => .inl (bldAt_below x hb)) (fun x => .inr (bldAt_below x hb))
theorem bld_fresh (w : World) : BldF w.heap.size w.heap.size [] (w.alloc (.cells #[.pointer none, .slice none 0 0] 87)) := Lib.IsBuilderF.of (Lib.fresh_isBuilder _ _ w)
theorem write_any (B b : Nat) (l s : List UInt8) (w : World) (h : BldF B b l w) (hl : l.length + s.length ≤ 140737488355328) (hB : B ≤ w.heap.size) :
    Calls Tryz.prog 45 #[.pointer (some ⟨b, 0, none⟩), .string (mkS s)] w fun e w' => (∃ r, e = .returned r) ∧ BldF B b (l ++ s) w' ∧ Below B w w' ∧ Lib.OthersKept 5 (some b) w w' := by
  refine (Any.Builder_WriteString_k { Tryz.lays156 with } Tryz.Builder_Extra_156 B b (Lib.byteCells l) (mkS s) w h (by rw [Lib.byteCells_length, mkS_size]; exact hl) hB).mono ?_
  rintro e w' ⟨rfl, h1, h2, h3⟩
  refine ⟨⟨_, rfl⟩, .inr ?_, h2, h3⟩
  have e1 : Lib.strCells (mkS s) = Lib.byteCells s := Lib.strCells_toArray s
  have e2 : Lib.byteCells (l ++ s) = Lib.byteCells l ++ Lib.byteCells s := by unfold Lib.byteCells; rw [List.map_append]
  rw [e2, ← e1]
  exact h1
end Go.Proofs.YtdldochhondifaaGreatDoor
