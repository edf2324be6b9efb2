/-
  Texts of the claim AsmWholeSays (AsA): what each proves stands at its theorems.
  Conditions: as the theorems say.
-/
import Derived.Lib.AppendIntMem
import Derived.Lib.OthersKept
import Derived.BigQuiet
import Derived.BigRegion
import Derived.Deep.QuietTactic
import Derived.Test.YtdldochhondifaaGreatDoorVAsF
import Derived.Test.YtdldochhondifaaGreatDoorVShs
import Derived.Test.YtdldochhondifaaGreatDoorVKitD
import Derived.Test.YtdldochhondifaaGreatDoorVIng
namespace Go.Proofs.YtdldochhondifaaGreatDoor
open Go.RowKit
attribute [local go_sem] Oper.semAt_some

/-- The table of tens lies as the program's text lays it. -/
def Pow (w : World) : Prop := Lib.TabIs Tryz.prog w "internal/strconv.uint64pow10" .u64 Lib.pow10Tab
theorem Pow.own {W w : World} (h : Pow W) (hb : Below W.heap.size W w) : Pow w := Lib.tabBelow_of_tabIs h w hb
theorem gPow : Tryz.prog.globalNamed "internal/strconv.uint64pow10" = some 5 := by kernel_rfl
theorem Pow.below {W w : World} {B : Nat} (h : Pow W) (hb : Below B W w) (hB : 5 < B) : Pow w := by
  unfold Pow Lib.TabIs World.var? at *
  rw [gPow] at h ⊢
  simp only [Option.bind_some] at h ⊢
  rw [hb.block _ hB]
  exact h
/-- The words lie in block 0. -/
def Wrd (w : World) : Prop := 0 < w.heap.size ∧ ∀ (k : Nat) (x : List UInt8), wordTab[k]? = some x → w.cell? ⟨0, k, none⟩ = some (.string (mkS x))
theorem Wrd.below {W w : World} {B : Nat} (h : Wrd W) (hb : Below B W w) (hB : 0 < B) (hz : B ≤ w.heap.size) : Wrd w :=
  ⟨by omega, fun k x hk => (bcell hb hB).trans (h.2 k x hk)⟩
theorem Wrd.own {W w : World} (h : Wrd W) (hb : Below W.heap.size W w) : Wrd w := h.below hb h.1 hb.size
theorem Itoa_any (n : Int) (hn : I64 n) (w : World) (hp : Pow w) :
    Calls Tryz.prog 34 #[.int .i64 n] w fun e w' => e = .returned (.string (mkS (Lib.itoa n))) ∧ Below w.heap.size w w' := by
  refine (Tryz.strconv_Itoa n hn.1 hn.2 w hp).mono ?_
  rintro e w' ⟨rfl, k, os, rfl⟩
  exact ⟨rfl, Lib.below_grow _ w (Nat.le_refl _) k os⟩
/-- A row of texts that the call owns. -/
def OwnS (w : World) (base : Nat) (v : Value) (ss : List (List UInt8)) : Prop := w.ownsRow base 9 1 v ss.length (ss.map fun l => Value.string (mkS l))
theorem OwnS.nil (w : World) (base : Nat) : OwnS w base (.slice none 0 0) [] := World.ownsRow_nil w base 9 1
theorem OwnS.below {w w' : World} {base : Nat} {v : Value} {ss : List (List UInt8)} (h : OwnS w base v ss) (hb : Below w.heap.size w w') : OwnS w' base v ss := by
  refine World.ownsRow.kept (row := none) h ⟨hb.os, hb.tape, hb.output, hb.size, fun k hk _ => hb.block k hk⟩ ?_
  cases v.ownBlock <;> simp
theorem OwnS.snoc {w : World} {base : Nat} {v : Value} {ss : List (List UInt8)} {s : List UInt8} (h : w.ownsRow base 9 1 v (ss.length + 1) (ss.map (fun l => Value.string (mkS l)) ++ [.string (mkS s)])) : OwnS w base v (ss ++ [s]) := by
  unfold OwnS
  rw [List.length_append, List.map_append]
  exact h
theorem infoStr : (Tryz.prog.info? 9).map (fun i => (i.zero, i.size, i.bytes)) = some (some (.string ⟨#[]⟩), 1, 16) := by kernel_rfl

end Go.Proofs.YtdldochhondifaaGreatDoor
