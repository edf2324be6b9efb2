/-
  turnerylaw7.twin: a unit of a main that reads two numbers, and tells their sum.
  Conditions: the table turnery/code.ways is laid.
-/
import Derived.Test.YtgnkkgbjcodihaaDoorUnY
namespace Go.Proofs.YtgnkkgbjcodihaaDoor
open Go.RowKit

def mainName : ByteArray := ⟨#[109, 97, 105, 110]⟩
def twinB : BlkU := ⟨[], [⟨21, 0, Opd.zero, Opd.zero, 0, []⟩, ⟨21, 1, Opd.zero, Opd.zero, 0, []⟩, ⟨2, 2, ⟨true, 0⟩, ⟨true, 1⟩, 0, []⟩], 1, ⟨true, 2⟩, []⟩
def twinFs : List FunU := [⟨mainName, 0, 3, [twinB]⟩]
theorem twin_unit : unitF [] twinFs = (0, 0) := by kernel_rfl
theorem twin_clash : clashF [] twinFs 0 = (0, 0) := by kernel_rfl
theorem sl_lit {α : Type} {size : Nat} {P : World → Nat → List Value → α → Prop} {w : World} {B g : Nat} {t : TypeId} {cs : Array Value} {xs : List α} (n : Nat) (hn : xs.length = n) (hb : Blk w g t cs) (hg : g < B) (hl : n ≤ 1000)
    (h : ∀ (k : Nat) (x : α), xs[k]? = some x → ∃ us, P w B us x ∧ ∀ (j : Nat) (u : Value), us[j]? = some u → cs[k * size + j]? = some u) : SlAt size P w B (.slice (some ⟨g, 0, none⟩) n n) xs := by
  subst hn
  refine ⟨some ⟨g, 0, none⟩, xs.length, rfl, Nat.le_refl _, by omega, fun _ => ⟨g, 0, rfl, hg, fun k x hx => ?_⟩⟩
  obtain ⟨us, hp, hc⟩ := h k x hx
  refine ⟨us, hp, fun j u hu => ?_⟩
  rw [Nat.zero_add, hb.cell]
  exact hc j u hu
theorem cells_nth {us : List Value} {cs : Array Value} {o : Nat} (h : (cs.toList.drop o).take us.length = us) (j : Nat) (u : Value) (hu : us[j]? = some u) : cs[o + j]? = some u := by
  have hj := (List.getElem?_eq_some_iff.1 hu).1
  rw [← h, List.getElem?_take, if_pos hj, List.getElem?_drop] at hu
  simpa using hu
theorem ints_none (w : World) (B : Nat) : IntsAt w B (.slice none 0 0) [] := ⟨none, 0, rfl, by simp, by omega, fun h => by simp at h⟩
theorem globs_none (w : World) (B : Nat) : GlobsAt w B (.slice none 0 0) [] := ⟨none, 0, rfl, by simp, by omega, fun h => by simp at h⟩
theorem i64_small {n : Int} (h : -1000 ≤ n ∧ n ≤ 1000) : I64 n := ⟨by omega, by omega⟩
set_option maxRecDepth 100000 in
set_option maxHeartbeats 2000000 in
theorem twin_any (w : World) (hw : Ways w) : Calls Tryd.prog 12 #[] w fun e w' => ∃ gv fv, e = .returned (.agg #[gv, fv]) ∧ UnitAt w' w'.heap.size gv fv [] twinFs ∧ Below w.heap.size w w' := by
  have HW := Lib.hid hw
  clear hw
  have HB : Hid (Below w.heap.size w (((((w.alloc (.cells #[.slice none 0 0, .slice (some ⟨w.heap.size + 1 + 1 + 1 + 1, 0, none⟩) 1 1] 25)).alloc (.cells #[.int .i64 21, .int .i64 0, .bool false, .int .i64 0, .bool false, .int .i64 0, .int .i64 0, .slice none 0 0, .int .i64 21, .int .i64 1, .bool false, .int .i64 0, .bool false, .int .i64 0, .int .i64 0, .slice none 0 0, .int .i64 2, .int .i64 2, .bool true, .int .i64 0, .bool true, .int .i64 1, .int .i64 0, .slice none 0 0] 47)).alloc (.cells #[.slice none 0 0, .slice (some ⟨w.heap.size + 1, 0, none⟩) 3 3, .int .i64 1, .bool true, .int .i64 2, .slice none 0 0] 44)).alloc (.cells #[.slice none 0 0, .slice (some ⟨w.heap.size + 1, 0, none⟩) 3 3, .int .i64 1, .bool true, .int .i64 2, .slice none 0 0] 44)).alloc (.cells #[.string ⟨#[109, 97, 105, 110]⟩, .int .i64 0, .int .i64 3, .slice (some ⟨w.heap.size + 1 + 1 + 1, 0, none⟩) 1 1] 36))) := Lib.hid ((((((Below.refl _ _).alloc (Nat.le_refl _) _).alloc (by simp) _).alloc (by simp; omega) _).alloc (by simp; omega) _).alloc (by simp; omega) _)
  have H0 : Hid (Blk (((((w.alloc (.cells #[.slice none 0 0, .slice (some ⟨w.heap.size + 1 + 1 + 1 + 1, 0, none⟩) 1 1] 25)).alloc (.cells #[.int .i64 21, .int .i64 0, .bool false, .int .i64 0, .bool false, .int .i64 0, .int .i64 0, .slice none 0 0, .int .i64 21, .int .i64 1, .bool false, .int .i64 0, .bool false, .int .i64 0, .int .i64 0, .slice none 0 0, .int .i64 2, .int .i64 2, .bool true, .int .i64 0, .bool true, .int .i64 1, .int .i64 0, .slice none 0 0] 47)).alloc (.cells #[.slice none 0 0, .slice (some ⟨w.heap.size + 1, 0, none⟩) 3 3, .int .i64 1, .bool true, .int .i64 2, .slice none 0 0] 44)).alloc (.cells #[.slice none 0 0, .slice (some ⟨w.heap.size + 1, 0, none⟩) 3 3, .int .i64 1, .bool true, .int .i64 2, .slice none 0 0] 44)).alloc (.cells #[.string ⟨#[109, 97, 105, 110]⟩, .int .i64 0, .int .i64 3, .slice (some ⟨w.heap.size + 1 + 1 + 1, 0, none⟩) 1 1] 36)) w.heap.size 25 #[.slice none 0 0, .slice (some ⟨w.heap.size + 1 + 1 + 1 + 1, 0, none⟩) 1 1]) := Lib.hid (((((Blk.new w _ _).alloc _).alloc _).alloc _).alloc _)
  have H1 : Hid (Blk (((((w.alloc (.cells #[.slice none 0 0, .slice (some ⟨w.heap.size + 1 + 1 + 1 + 1, 0, none⟩) 1 1] 25)).alloc (.cells #[.int .i64 21, .int .i64 0, .bool false, .int .i64 0, .bool false, .int .i64 0, .int .i64 0, .slice none 0 0, .int .i64 21, .int .i64 1, .bool false, .int .i64 0, .bool false, .int .i64 0, .int .i64 0, .slice none 0 0, .int .i64 2, .int .i64 2, .bool true, .int .i64 0, .bool true, .int .i64 1, .int .i64 0, .slice none 0 0] 47)).alloc (.cells #[.slice none 0 0, .slice (some ⟨w.heap.size + 1, 0, none⟩) 3 3, .int .i64 1, .bool true, .int .i64 2, .slice none 0 0] 44)).alloc (.cells #[.slice none 0 0, .slice (some ⟨w.heap.size + 1, 0, none⟩) 3 3, .int .i64 1, .bool true, .int .i64 2, .slice none 0 0] 44)).alloc (.cells #[.string ⟨#[109, 97, 105, 110]⟩, .int .i64 0, .int .i64 3, .slice (some ⟨w.heap.size + 1 + 1 + 1, 0, none⟩) 1 1] 36)) (w.heap.size + 1) 47 #[.int .i64 21, .int .i64 0, .bool false, .int .i64 0, .bool false, .int .i64 0, .int .i64 0, .slice none 0 0, .int .i64 21, .int .i64 1, .bool false, .int .i64 0, .bool false, .int .i64 0, .int .i64 0, .slice none 0 0, .int .i64 2, .int .i64 2, .bool true, .int .i64 0, .bool true, .int .i64 1, .int .i64 0, .slice none 0 0]) := Lib.hid (by
    have := (((Blk.new (w.alloc (.cells #[.slice none 0 0, .slice (some ⟨w.heap.size + 1 + 1 + 1 + 1, 0, none⟩) 1 1] 25)) 47 #[.int .i64 21, .int .i64 0, .bool false, .int .i64 0, .bool false, .int .i64 0, .int .i64 0, .slice none 0 0, .int .i64 21, .int .i64 1, .bool false, .int .i64 0, .bool false, .int .i64 0, .int .i64 0, .slice none 0 0, .int .i64 2, .int .i64 2, .bool true, .int .i64 0, .bool true, .int .i64 1, .int .i64 0, .slice none 0 0]).alloc (.cells #[.slice none 0 0, .slice (some ⟨w.heap.size + 1, 0, none⟩) 3 3, .int .i64 1, .bool true, .int .i64 2, .slice none 0 0] 44)).alloc (.cells #[.slice none 0 0, .slice (some ⟨w.heap.size + 1, 0, none⟩) 3 3, .int .i64 1, .bool true, .int .i64 2, .slice none 0 0] 44)).alloc (.cells #[.string ⟨#[109, 97, 105, 110]⟩, .int .i64 0, .int .i64 3, .slice (some ⟨w.heap.size + 1 + 1 + 1, 0, none⟩) 1 1] 36)
    simp only [World.size_alloc] at this
    exact this)
  have H3 : Hid (Blk (((((w.alloc (.cells #[.slice none 0 0, .slice (some ⟨w.heap.size + 1 + 1 + 1 + 1, 0, none⟩) 1 1] 25)).alloc (.cells #[.int .i64 21, .int .i64 0, .bool false, .int .i64 0, .bool false, .int .i64 0, .int .i64 0, .slice none 0 0, .int .i64 21, .int .i64 1, .bool false, .int .i64 0, .bool false, .int .i64 0, .int .i64 0, .slice none 0 0, .int .i64 2, .int .i64 2, .bool true, .int .i64 0, .bool true, .int .i64 1, .int .i64 0, .slice none 0 0] 47)).alloc (.cells #[.slice none 0 0, .slice (some ⟨w.heap.size + 1, 0, none⟩) 3 3, .int .i64 1, .bool true, .int .i64 2, .slice none 0 0] 44)).alloc (.cells #[.slice none 0 0, .slice (some ⟨w.heap.size + 1, 0, none⟩) 3 3, .int .i64 1, .bool true, .int .i64 2, .slice none 0 0] 44)).alloc (.cells #[.string ⟨#[109, 97, 105, 110]⟩, .int .i64 0, .int .i64 3, .slice (some ⟨w.heap.size + 1 + 1 + 1, 0, none⟩) 1 1] 36)) (w.heap.size + 1 + 1 + 1) 44 #[.slice none 0 0, .slice (some ⟨w.heap.size + 1, 0, none⟩) 3 3, .int .i64 1, .bool true, .int .i64 2, .slice none 0 0]) := Lib.hid (by
    have := (Blk.new (((w.alloc (.cells #[.slice none 0 0, .slice (some ⟨w.heap.size + 1 + 1 + 1 + 1, 0, none⟩) 1 1] 25)).alloc (.cells #[.int .i64 21, .int .i64 0, .bool false, .int .i64 0, .bool false, .int .i64 0, .int .i64 0, .slice none 0 0, .int .i64 21, .int .i64 1, .bool false, .int .i64 0, .bool false, .int .i64 0, .int .i64 0, .slice none 0 0, .int .i64 2, .int .i64 2, .bool true, .int .i64 0, .bool true, .int .i64 1, .int .i64 0, .slice none 0 0] 47)).alloc (.cells #[.slice none 0 0, .slice (some ⟨w.heap.size + 1, 0, none⟩) 3 3, .int .i64 1, .bool true, .int .i64 2, .slice none 0 0] 44)) 44 #[.slice none 0 0, .slice (some ⟨w.heap.size + 1, 0, none⟩) 3 3, .int .i64 1, .bool true, .int .i64 2, .slice none 0 0]).alloc (.cells #[.string ⟨#[109, 97, 105, 110]⟩, .int .i64 0, .int .i64 3, .slice (some ⟨w.heap.size + 1 + 1 + 1, 0, none⟩) 1 1] 36)
    simp only [World.size_alloc] at this
    exact this)
  have H4 : Hid (Blk (((((w.alloc (.cells #[.slice none 0 0, .slice (some ⟨w.heap.size + 1 + 1 + 1 + 1, 0, none⟩) 1 1] 25)).alloc (.cells #[.int .i64 21, .int .i64 0, .bool false, .int .i64 0, .bool false, .int .i64 0, .int .i64 0, .slice none 0 0, .int .i64 21, .int .i64 1, .bool false, .int .i64 0, .bool false, .int .i64 0, .int .i64 0, .slice none 0 0, .int .i64 2, .int .i64 2, .bool true, .int .i64 0, .bool true, .int .i64 1, .int .i64 0, .slice none 0 0] 47)).alloc (.cells #[.slice none 0 0, .slice (some ⟨w.heap.size + 1, 0, none⟩) 3 3, .int .i64 1, .bool true, .int .i64 2, .slice none 0 0] 44)).alloc (.cells #[.slice none 0 0, .slice (some ⟨w.heap.size + 1, 0, none⟩) 3 3, .int .i64 1, .bool true, .int .i64 2, .slice none 0 0] 44)).alloc (.cells #[.string ⟨#[109, 97, 105, 110]⟩, .int .i64 0, .int .i64 3, .slice (some ⟨w.heap.size + 1 + 1 + 1, 0, none⟩) 1 1] 36)) (w.heap.size + 1 + 1 + 1 + 1) 36 #[.string ⟨#[109, 97, 105, 110]⟩, .int .i64 0, .int .i64 3, .slice (some ⟨w.heap.size + 1 + 1 + 1, 0, none⟩) 1 1]) := Lib.hid (by
    have := Blk.new ((((w.alloc (.cells #[.slice none 0 0, .slice (some ⟨w.heap.size + 1 + 1 + 1 + 1, 0, none⟩) 1 1] 25)).alloc (.cells #[.int .i64 21, .int .i64 0, .bool false, .int .i64 0, .bool false, .int .i64 0, .int .i64 0, .slice none 0 0, .int .i64 21, .int .i64 1, .bool false, .int .i64 0, .bool false, .int .i64 0, .int .i64 0, .slice none 0 0, .int .i64 2, .int .i64 2, .bool true, .int .i64 0, .bool true, .int .i64 1, .int .i64 0, .slice none 0 0] 47)).alloc (.cells #[.slice none 0 0, .slice (some ⟨w.heap.size + 1, 0, none⟩) 3 3, .int .i64 1, .bool true, .int .i64 2, .slice none 0 0] 44)).alloc (.cells #[.slice none 0 0, .slice (some ⟨w.heap.size + 1, 0, none⟩) 3 3, .int .i64 1, .bool true, .int .i64 2, .slice none 0 0] 44)) 36 #[.string ⟨#[109, 97, 105, 110]⟩, .int .i64 0, .int .i64 3, .slice (some ⟨w.heap.size + 1 + 1 + 1, 0, none⟩) 1 1]
    simp only [World.size_alloc] at this
    exact this)
  go_enter Tryd.func12, Tryd.ntmps12
  go_wp2_with fail
  generalize ((((w.alloc (.cells #[.slice none 0 0, .slice (some ⟨w.heap.size + 1 + 1 + 1 + 1, 0, none⟩) 1 1] 25)).alloc (.cells #[.int .i64 21, .int .i64 0, .bool false, .int .i64 0, .bool false, .int .i64 0, .int .i64 0, .slice none 0 0, .int .i64 21, .int .i64 1, .bool false, .int .i64 0, .bool false, .int .i64 0, .int .i64 0, .slice none 0 0, .int .i64 2, .int .i64 2, .bool true, .int .i64 0, .bool true, .int .i64 1, .int .i64 0, .slice none 0 0] 47)).alloc (.cells #[.slice none 0 0, .slice (some ⟨w.heap.size + 1, 0, none⟩) 3 3, .int .i64 1, .bool true, .int .i64 2, .slice none 0 0] 44)).alloc (.cells #[.slice none 0 0, .slice (some ⟨w.heap.size + 1, 0, none⟩) 3 3, .int .i64 1, .bool true, .int .i64 2, .slice none 0 0] 44)).alloc (.cells #[.string ⟨#[109, 97, 105, 110]⟩, .int .i64 0, .int .i64 3, .slice (some ⟨w.heap.size + 1 + 1 + 1, 0, none⟩) 1 1] 36) = W at *
  generalize w.heap.size + 1 = g1 at *
  generalize g1 + 1 + 1 = g3 at *
  generalize g3 + 1 = g4 at *
  have hI : InssAt W W.heap.size (.slice (some ⟨g1, 0, none⟩) 3 3) twinB.list := by
    refine sl_lit 3 rfl H1.out H1.out.lt (by omega) (fun k x hx => ?_)
    have hk := (List.getElem?_eq_some_iff.1 hx).1
    rcases (by have : twinB.list.length = 3 := rfl; omega : k = 0 ∨ k = 1 ∨ k = 2) with rfl | rfl | rfl
    all_goals
      cases hx
      exact ⟨_, ⟨_, rfl, SlAt.nil _ _⟩, fun j u hu => cells_nth (by rfl) j u hu⟩
  have hBk : BlksAt W W.heap.size (.slice (some ⟨g3, 0, none⟩) 1 1) [twinB] := by
    refine sl_lit 1 rfl H3.out H3.out.lt (by omega) (fun k x hx => ?_)
    have hk := (List.getElem?_eq_some_iff.1 hx).1
    obtain rfl : k = 0 := by simp at hk; exact hk
    cases hx
    exact ⟨_, ⟨_, _, _, rfl, SlAt.nil _ _, hI, ints_none _ _⟩, fun j u hu => cells_nth (by rfl) j u hu⟩
  have hF : FunsAt W W.heap.size (.slice (some ⟨g4, 0, none⟩) 1 1) twinFs := by
    refine sl_lit 1 rfl H4.out H4.out.lt (by omega) (fun k x hx => ?_)
    have hk := (List.getElem?_eq_some_iff.1 hx).1
    obtain rfl : k = 0 := by simp [twinFs] at hk; exact hk
    cases hx
    exact ⟨_, ⟨_, rfl, hBk⟩, fun j u hu => cells_nth (by rfl) j u hu⟩
  have hok : ∀ f ∈ twinFs, f.ok := by
    have hz : Opd.zero.ok := ⟨i64_small (by decide)⟩
    intro f hf
    simp only [twinFs, List.mem_cons, List.not_mem_nil, or_false] at hf
    subst hf
    refine ⟨by decide, i64_small (by decide), i64_small (by decide), fun b hb => ?_⟩
    simp only [List.mem_cons, List.not_mem_nil, or_false] at hb
    subst hb
    refine ⟨fun p hp => (by cases hp), fun x hx => ?_, i64_small (by decide), ⟨i64_small (by decide)⟩, fun n hn => (by cases hn)⟩
    simp only [twinB, List.mem_cons, List.not_mem_nil, or_false] at hx
    rcases hx with rfl | rfl | rfl
    all_goals exact ⟨i64_small (by decide), i64_small (by decide), ⟨i64_small (by decide)⟩, ⟨i64_small (by decide)⟩, i64_small (by decide), fun o ho => (by cases ho)⟩
  have hU : UnitAt W W.heap.size (.slice none 0 0) (.slice (some ⟨g4, 0, none⟩) 1 1) [] twinFs :=
    ⟨globs_none _ _, hF, fun g hg => (by cases hg), hok, HW.out.own HB.out, (HW.out.own HB.out).lt, Nat.le_refl _⟩
  exact end_cell rfl rfl H0.out Tryd.underlying25 rfl (by kernel_rfl) rfl ⟨_, _, rfl, hU, HB.out⟩
end Go.Proofs.YtgnkkgbjcodihaaDoor
