/-
  Texts of the claim AsmWholeSays (Std): what each proves stands at its theorems.
  Conditions: as the theorems say.
-/
import Derived.Lib.LaidU8T
import Derived.Shelf.Vars
import Derived.Handed
import Derived.Stop.LaidErr
import Derived.Test.YtdldochhondifaaGreatDoorVKitE
import Derived.Test.YtdldochhondifaaGreatDoorVArF
namespace Go.Proofs.YtdldochhondifaaGreatDoor
open Go.RowKit

def u8Ren : Go.Shelf.Ren := ⟨fun n => n, fun | 5 => 5 | 119 => 243 | 138 => 245 | 139 => 246 | n => n, fun | 3 => 6 | 4 => 7 | n => n⟩
theorem first_data : (Rows.laid_unicode_utf8_first : DataW Unit) = Lib.firstData := by kernel_rfl
theorem accept_data : (Rows.laid_unicode_utf8_acceptRanges : DataW Unit) = Lib.acceptData := by kernel_rfl
theorem u8_of_laid {W : World} (h : laidMetH Tryz.prog laidAll W) : Lib.Utf8Tabs 6 7 W := by
  rw [MakeChecks.laidMetH_plain _ _ _ (by kernel_rfl)] at h
  exact utf8Tabs_of_readsT (P := Tryz.prog) (ρ := u8Ren) ⟨Tryz.underlying5, Tryz.underlying243, Tryz.underlying245, Tryz.underlying246⟩ ⟨by kernel_rfl, by kernel_rfl, by kernel_rfl, by kernel_rfl, by kernel_rfl, by kernel_rfl, by kernel_rfl⟩
    (first_data ▸ Lib.laidMet.reads h (by simp [laidAll])) (accept_data ▸ Lib.laidMet.reads h (by simp [laidAll]))
theorem len_of_shape {W : World} (h : W.ShapedOpen Tryz.prog) : ∃ m : Int, W.cell? ⟨2, 0, none⟩ = some (.int .i64 m) :=
  cell_of_shapedOpen_int (P := Tryz.prog) (g := 2) (t := 3) (zero := #[.int .i64 0]) h (of_decide_eq_true (by kernel_rfl)) (by kernel_rfl) rfl (by kernel_rfl) (by kernel_rfl) Tryz.underlying3
theorem star_err : "*" ++ "errors.errorString" = "*errors.errorString" := by decide
theorem row_err (u : TypeId) (h : Tryz.prog.typeName? 3 u = some "*errors.errorString") : u = 251 :=
  typeName_ptr_named (nm := "errors.errorString") (by rw [star_err]; kernel_rfl) (by kernel_rfl) (by decide) u (by rw [star_err]; exact h)
theorem var_one {P : Program} {W : World} {n : String} {g : Nat} (hg : P.globalNamed n = some g) {v : Value} (h : W.var? P n = some #[v]) : W.cell? ⟨g, 0, none⟩ = some v := by
  have := World.var?_cell hg h 0
  exact this
theorem errs_of_laid {W : World} (h : laidMetH Tryz.prog laidAll W) (hb : 5 < W.heap.size) : Errs W := by
  rw [MakeChecks.laidMetH_plain _ _ _ (by kernel_rfl)] at h
  obtain ⟨a1, t1, hv1, _⟩ := laid_sentinel (g := 4) (tp := 251) (te := 253) (ts := 9) (ti := 89) h.tail.tail.tail.tail (by kernel_rfl) (by kernel_rfl) Tryz.underlying89 row_err Tryz.underlying251 Tryz.underlying253 rfl rfl Tryz.underlying9 (by kernel_rfl) (by kernel_rfl)
  obtain ⟨a2, t2, hv2, _⟩ := laid_sentinel (g := 3) (tp := 251) (te := 253) (ts := 9) (ti := 89) h.tail.tail.tail.tail.tail (by kernel_rfl) (by kernel_rfl) Tryz.underlying89 row_err Tryz.underlying251 Tryz.underlying253 rfl rfl Tryz.underlying9 (by kernel_rfl) (by kernel_rfl)
  exact ⟨_, _, ⟨var_one (by kernel_rfl) hv2, .inr ⟨_, _, rfl⟩⟩, ⟨var_one (by kernel_rfl) hv1, .inr ⟨_, _, rfl⟩⟩, hb⟩
theorem big_of_shape {W : World} (h : W.ShapedOpen Tryz.prog) : 10 ≤ W.heap.size := by
  have hs : (((begin Tryz.prog (fun _ _ => 0) default).world.heap[9]?).bind Obj.row?).isSome = true := by kernel_rfl
  obtain ⟨⟨zero, t⟩, h0⟩ := Option.isSome_iff_exists.1 hs
  obtain ⟨cs, hh, _⟩ := h.1 9 zero t (of_decide_eq_true (by kernel_rfl)) h0
  have := (Array.getElem?_eq_some_iff.1 hh).1
  omega
theorem std_of {W : World} (h : laidMetH Tryz.prog laidAll W) (hs : W.ShapedOpen Tryz.prog) : Std W :=
  ⟨errs_of_laid h (by have := big_of_shape hs; omega), pow_of_laid h, wrd_of_laid h, tab_of_laid h, len_of_shape hs, u8_of_laid h, big_of_shape hs⟩
variable {H : Type} {enc : TypeId × Value → H}
/-- As the kit's wrap for listed variables, the world's shape handed on. -/
theorem returns_shaped {a : Assume} {C : Checked} {os : Os} {f : FuncId} {fn : Func} {s : ChangeSpec} {conds : List PathCond} {apart fresh handsOn again : Bool} {X : World → Array Value → Prop}
    (hX : ∀ (w w' : World) (args : Array Value), w.heap = w'.heap → X w args → X w' args)
    (own : ownKnob C.prog.godebug = none) (started : os.Started) (noInit : C.prog.inits.idxOf? f = none) (hfn : C.prog.funcs[f]? = some fn)
    (witness : ∃ (w : World) (tape : Tape) (i : Input), w.os = os ∧ (w.forCall tape i).Shaped C.prog ∧ i.vars = [] ∧ Input.okWide C.prog (w.forCall tape i) .any w.heap.size f i ∧
      ((s.pre enc C.prog fn conds apart (w.forCall tape i).memory i.args ∧ X (w.forCall tape i).memory i.args) ∧ sizedMet enc C.prog fn (OpenSpec.ofChange s) apart (w.forCall tape i).memory i.args) ∧ a.holds C.prog (lone (Frame.enter C.prog f i.args .normal) [] (w.forCall tape i)))
    (contract : ∀ (W : World) (base : Nat) (args : Array Value) (ds gs : List (DataW H)) (before : List MemPlace),
      (∀ (j : Nat) t v, fn.params[j]? = some t → args[j]? = some v → Value.okWide C.prog W .any base t v) →
      DataW.Whole enc C.prog fn.params.toList s.vars apart W args.toList ds gs before →
      X W args → W.ShapedOpen C.prog →
      Calls C.prog f args W fun e W' => ∃ v, e = .returned v ∧ s.post enc C.prog fn apart fresh handsOn again W args v W') :
    ReturnsInHanded a C os f .any (fun w args => (s.pre enc C.prog fn conds apart w args ∧ X w args) ∧ sizedMet enc C.prog fn (OpenSpec.ofChange s) apart w args) (s.post enc C.prog fn apart fresh handsOn again) := by
  refine returnsInHanded_of_calls own started noInit witness ?_
  intro w tape i _ hsh _ hok hpre hholds
  obtain ⟨_, _, _, fn', hfn', _, _, _, _, hval⟩ := hok
  have e : fn' = fn := Option.some.inj (hfn'.symm.trans hfn)
  subst e
  obtain ⟨⟨⟨ds, gs, before, hw, hc⟩, hx⟩, hz⟩ := hpre
  have hw' := DataW.Whole.of_heap (w' := w.forCall tape i) (by rfl) hw
  refine (contract (w.forCall tape i) w.heap.size i.args ds gs before hval hw' (hX _ _ _ (by rfl) hx) hsh).mono fun e W' ⟨v, he, hp⟩ => ?_
  subst he
  exact ChangeSpec.post_blind hp
end Go.Proofs.YtdldochhondifaaGreatDoor
