/-
  Several texts in one (RuH RuI RuJ): what each proves stands at its theorems.
  Conditions: as the theorems say.
-/
import Derived.Test.YtkiaffaieniebaaDoorRuF
import Derived.Test.YtkiaffaieniebaaDoorRuL
import Derived.Test.YtkiaffaieniebaaDoorLey
namespace Go.Proofs.YtkiaffaieniebaaDoor
open Go.RowKit

/-- All blocks of cells stand. -/
def KeepC (W W' : World) : Prop := W.heap.size ≤ W'.heap.size ∧ ∀ (g : Nat) (cs : Array Value) (t : TypeId) (f : Nat × Nat), W.heap[g]? = some (.cells cs t f) → W'.heap[g]? = some (.cells cs t f)
theorem KeepC.refl (W : World) : KeepC W W := ⟨Nat.le_refl _, fun _ _ _ _ h => h⟩
theorem KeepC.blk {W W' : World} (h : KeepC W W') {g : Nat} {t : TypeId} {cs : Array Value} (hb : Blk W g t cs) : Blk W' g t cs := h.2 _ _ _ _ hb
theorem KeepC.cell {W W' : World} (h : KeepC W W') {b o : Nat} {v : Value} (hc : W.cell? ⟨b, o, none⟩ = some v) : W'.cell? ⟨b, o, none⟩ = some v := by
  unfold World.cell? at *
  split at hc
  · rename_i c t f hh
    rw [h.2 _ _ _ _ hh]
    exact hc
  · cases hc
theorem KeepC.row {W W' : World} (h : KeepC W W') {base : Nat} {e : TypeId} {size n : Nat} {v : Value} {xs : List Value} (ho : W.ownsRow base e size v n xs) : W'.ownsRow base e size v n xs := by
  obtain ⟨h1, h2⟩ := ho
  refine ⟨h1, ?_⟩
  rcases h2 with h2 | ⟨g, cap, cur, a, b, c, d⟩
  · exact .inl h2
  · exact .inr ⟨g, cap, cur, a, b, h.2 _ _ _ _ c, d⟩
theorem KeepC.macs {W W' : World} (h : KeepC W W') {B : Nat} {v : Value} {ms : List Mac} (hm : MacsAt W B v ms) : MacsAt W' B v ms := by
  obtain ⟨A, c, e, h1, h2, h3⟩ := hm
  refine ⟨A, c, e, h1, h2, fun hl => ?_⟩
  obtain ⟨b, off, e1, e2, e3⟩ := h3 hl
  refine ⟨b, off, e1, e2, fun k m hk => ?_⟩
  obtain ⟨a0, a1, a2, a3, a4⟩ := e3 k m hk
  exact ⟨h.cell a0, h.cell a1, h.cell a2, h.cell a3, h.cell a4⟩
theorem KeepC.codes {W W' : World} (h : KeepC W W') {B : Nat} {v : Value} {xss : List (List Mac)} (hm : CodesAt W B v xss) : CodesAt W' B v xss := by
  obtain ⟨A, c, e, h1, h2, h3⟩ := hm
  refine ⟨A, c, e, h1, h2, fun hl => ?_⟩
  obtain ⟨b, off, e1, e2, e3⟩ := h3 hl
  refine ⟨b, off, e1, e2, fun k m hk => ?_⟩
  obtain ⟨r, hr, hi⟩ := e3 k m hk
  exact ⟨r, h.cell hr, h.macs hi⟩
theorem KeepC.ints {W W' : World} (h : KeepC W W') {B : Nat} {v : Value} {xs : List Int} (hm : IntsAt W B v xs) : IntsAt W' B v xs := by
  obtain ⟨A, c, e, h1, h2, h3⟩ := hm
  refine ⟨A, c, e, h1, h2, fun hl => ?_⟩
  obtain ⟨b, off, e1, e2, e3⟩ := h3 hl
  exact ⟨b, off, e1, e2, fun k m hk => h.cell (e3 k m hk)⟩
theorem MachIs.kept {W W' : World} {base g : Nat} {codes : List (List Mac)} {s : Mch} (hm : MachIs W base g codes s) (h : KeepC W W') : MachIs W' base g codes s := by
  obtain ⟨hg, cv, mv, lv, iv, ov, ps, h1, h2⟩ := hm
  exact ⟨hg, cv, mv, lv, iv, ov, ps, h.blk h1, h.codes h2.hcodes, h.row h2.hmem, h.row h2.hcalls, h.ints h2.hinput, h.row h2.hout, h2.apart, h2.frs.keep fun p _ l hp => h.blk hp⟩
/-- The memory's row has grown. -/
theorem MRest.grow {w w4 : World} {base g n H : Nat} {codes : List (List Mac)} {mem mem' : List Int} {calls : List Fr} {input out : List Int} {cv mv mv' lv iv ov : Value} {ps : List Nat} {ms : Array Value}
    (h : Blk w g 102 ms ∧ MRest w base codes mem calls input out cv mv lv iv ov ps) (hH : w.heap.size = H) (hn : n = mem'.length) {l : List Value} (hl : l = intV mem')
    (ap : Appended w base 3 1 mv n l H mv' w4) : Blk w4 g 102 ms ∧ MRest w4 base codes mem' calls input out cv mv' lv iv ov ps := by
  subst hn
  subst hl
  subst hH
  obtain ⟨h1, h2⟩ := h
  have hol := World.ownsRow.lt h2.hout
  refine ⟨ap.blk h2.hmem h1 (by decide), h2.hcodes.below ap.below (Nat.le_refl _), ap.own, ap.row h2.hcalls (own_apart2 h2.hcalls h2.hmem (by decide)), h2.hinput.below ap.below (Nat.le_refl _), ap.row h2.hout ?_, ?_, h2.frs.keep fun p _ l hp => ap.blk h2.hmem hp (by decide)⟩
  · intro k hk hk'
    exact h2.apart k hk' hk
  · intro k hk
    rcases ap.2.2.2 with e | e
    · rw [e] at hk
      exact h2.apart k hk
    · rw [e] at hk
      cases hk
      intro hk'
      exact absurd (hol _ hk').2 (Nat.lt_irrefl _)
theorem Blk.set4 {w : World} {g : Nat} {t : TypeId} {x0 x1 x2 x3 : Value} (h : Blk w g t #[x0, x1, x2, x3]) (a b c d : Value) : Blk ((((w.setCell ⟨g, 0, none⟩ a).setCell ⟨g, 1, none⟩ b).setCell ⟨g, 2, none⟩ c).setCell ⟨g, 3, none⟩ d) g t #[a, b, c, d] :=
  (((h.set_ 0 a).set_ 1 b).set_ 2 c).set_ 3 d
/-- The end of a function whose second and third results lie in cells. -/
theorem end_tmp_cells {P : Program} {fn : Func} {R : Ending → World → Prop} {a : Act} {w : World} {q p p' : Tmp} {ty t ty' t' : TypeId} {g g' : Nat} {cs cs' : Array Value} {d d' : TypeDesc} (h : fn.results = #[.tmp q, .cell p ty, .cell p' ty'])
    (hp : a.tmps.getD p undef = .pointer (some ⟨g, 0, none⟩)) (hp' : a.tmps.getD p' undef = .pointer (some ⟨g', 0, none⟩)) (hb : Blk w g t cs) (hb' : Blk w g' t' cs') (hu : P.underlying ty = some d) (hd : (match d with | .struct _ | .array _ _ => true | _ => false) = true)
    (hu' : P.underlying ty' = some d') (hd' : (match d' with | .struct _ | .array _ _ => true | _ => false) = true) (hi : (P.info? ty).map (·.size) = some cs.size) (hi' : (P.info? ty').map (·.size) = some cs'.size) (hdf : a.defers = [])
    (hR : R (.returned (.tuple #[a.tmps.getD q undef, .agg cs, .agg cs'])) w) : bodyPost P fn R .ret a w := by
  refine bodyPost_ret (v := .tuple #[a.tmps.getD q undef, .agg cs, .agg cs']) ?_ hdf hR
  have hp1 : a.tmps[p]?.getD undef = .pointer (some ⟨g, 0, none⟩) := by simpa using hp
  have hp2 : a.tmps[p']?.getD undef = .pointer (some ⟨g', 0, none⟩) := by simpa using hp'
  simp [results, h, hp1, hp2, asAddr, run_loadVar_row w g t ty cs (0, 0) d hb hu hd hi, run_loadVar_row w g' t' ty' cs' (0, 0) d' hb' hu' hd' hi']
/-- The end of a function whose two results lie in cells. -/
theorem end_cells {P : Program} {fn : Func} {R : Ending → World → Prop} {a : Act} {w : World} {p p' : Tmp} {ty t ty' t' : TypeId} {g g' : Nat} {cs cs' : Array Value} {d d' : TypeDesc} (h : fn.results = #[.cell p ty, .cell p' ty'])
    (hp : a.tmps.getD p undef = .pointer (some ⟨g, 0, none⟩)) (hp' : a.tmps.getD p' undef = .pointer (some ⟨g', 0, none⟩)) (hb : Blk w g t cs) (hb' : Blk w g' t' cs') (hu : P.underlying ty = some d) (hd : (match d with | .struct _ | .array _ _ => true | _ => false) = true)
    (hu' : P.underlying ty' = some d') (hd' : (match d' with | .struct _ | .array _ _ => true | _ => false) = true) (hi : (P.info? ty).map (·.size) = some cs.size) (hi' : (P.info? ty').map (·.size) = some cs'.size) (hdf : a.defers = [])
    (hR : R (.returned (.tuple #[.agg cs, .agg cs'])) w) : bodyPost P fn R .ret a w := by
  refine bodyPost_ret (v := .tuple #[.agg cs, .agg cs']) ?_ hdf hR
  have hp1 : a.tmps[p]?.getD undef = .pointer (some ⟨g, 0, none⟩) := by simpa using hp
  have hp2 : a.tmps[p']?.getD undef = .pointer (some ⟨g', 0, none⟩) := by simpa using hp'
  simp [results, h, hp1, hp2, asAddr, run_loadVar_row w g t ty cs (0, 0) d hb hu hd hi, run_loadVar_row w g' t' ty' cs' (0, 0) d' hb' hu' hd' hi']
/-- What a run comes to. -/
def RunPost (w : World) (b0 : Nat) (J : World → List (Nat × Nat) → Prop) (s : Mch) (f : Int × Int) (css : List (List Mac)) (tr : List (Nat × Nat)) (e : Ending) (w' : World) : Prop :=
  ∃ v ov, e = .returned (.tuple #[v, .agg #[.int .i64 s.state, .int .i64 s.value, ov, .int .i64 (s.steps : Int)], .agg #[.int .i64 f.1, .int .i64 f.2]]) ∧ CodesAt w' w'.heap.size v css ∧ w'.ownsRow w.heap.size 3 1 ov s.out.length (intV s.out) ∧ Below b0 w w' ∧ J w' tr ∧ ∀ g t cs, Blk w g t cs → Blk w' g t cs
/-- What stands while a run goes on. -/
structure RunNow (w : World) (b0 gi : Nat) (gv rv : Value) (J : World → List (Nat × Nat) → Prop) (tr : List (Nat × Nat)) (wx : World) : Prop where
  img : Blk wx gi 36 #[gv, rv]
  res : Blk wx (gi + 1) 28 #[.int .i64 0, .int .i64 0, .slice none 0 0, .int .i64 0]
  flt : Blk wx (gi + 1 + 1) 30 #[.int .i64 0, .int .i64 0]
  below : Below b0 w wx
  kept : J wx tr
  keep : ∀ g t cs, g < gi → Blk w g t cs → Blk wx g t cs
theorem RunNow.next {w : World} {b0 gi B : Nat} {gv rv : Value} {J : World → List (Nat × Nat) → Prop} {tr : List (Nat × Nat)} {wx wy : World} (h : RunNow w b0 gi gv rv J tr wx) (hb : Below B wx wy) (hB : gi + 3 ≤ B) (hb0 : b0 ≤ B) (hJ : ∀ W W' tr, J W tr → Below gi W W' → J W' tr) : RunNow w b0 gi gv rv J tr wy :=
  ⟨h.img.below hb (by omega), h.res.below hb (by omega), h.flt.below hb (by omega), h.below.trans (hb.mono hb0), hJ _ _ _ h.kept (hb.mono (by omega)), fun g t cs hg hk => (h.keep g t cs hg hk).below hb (by omega)⟩
theorem RunNow.met {w : World} {b0 gi : Nat} {gv rv : Value} {J : World → List (Nat × Nat) → Prop} {tr tr' : List (Nat × Nat)} {wx wy : World} (h : RunNow w b0 gi gv rv J tr wx) (hk : KeepC wx wy) (hb : Below b0 wx wy) (hJ : J wy tr') : RunNow w b0 gi gv rv J tr' wy :=
  ⟨hk.blk h.img, hk.blk h.res, hk.blk h.flt, h.below.trans hb, hJ, fun g t cs hg hc => hk.blk (h.keep g t cs hg hc)⟩
theorem RunNow.end_ {w : World} {b0 gi : Nat} {gv rv : Value} {J : World → List (Nat × Nat) → Prop} {tr : List (Nat × Nat)} {wx : World} (h : RunNow w b0 gi gv rv J tr wx) (a b c d x y : Value) :
    Blk ((((((wx.setCell ⟨gi + 1, 0, none⟩ a).setCell ⟨gi + 1, 1, none⟩ b).setCell ⟨gi + 1, 2, none⟩ c).setCell ⟨gi + 1, 3, none⟩ d).setCell ⟨gi + 1 + 1, 0, none⟩ x).setCell ⟨gi + 1 + 1, 1, none⟩ y) (gi + 1) 28 #[a, b, c, d] ∧
    Blk ((((((wx.setCell ⟨gi + 1, 0, none⟩ a).setCell ⟨gi + 1, 1, none⟩ b).setCell ⟨gi + 1, 2, none⟩ c).setCell ⟨gi + 1, 3, none⟩ d).setCell ⟨gi + 1 + 1, 0, none⟩ x).setCell ⟨gi + 1 + 1, 1, none⟩ y) (gi + 1 + 1) 30 #[x, y] ∧
    Below (gi + 1) wx ((((((wx.setCell ⟨gi + 1, 0, none⟩ a).setCell ⟨gi + 1, 1, none⟩ b).setCell ⟨gi + 1, 2, none⟩ c).setCell ⟨gi + 1, 3, none⟩ d).setCell ⟨gi + 1 + 1, 0, none⟩ x).setCell ⟨gi + 1 + 1, 1, none⟩ y) := by
  refine ⟨?_, ?_, ?_⟩
  · exact (((h.res.set4 a b c d).far (by simp) x).far (by simp) y)
  · exact Blk.set2 ((((h.flt.far (by simp) a).far (by simp) b).far (by simp) c).far (by simp) d) x y
  · exact ((((((Below.refl _ _).setCell (by simp) _).setCell (by simp) _).setCell (by simp) _).setCell (by simp) _).setCell (by simp) _).setCell (by simp) _
theorem run_fault {w wx wy : World} {b0 gi : Nat} {gv rv : Value} {J : World → List (Nat × Nat) → Prop} (h : RunNow w b0 gi gv rv J [] wx) (hb : Below gi wx wy) (hb0 : b0 ≤ gi) (hJ : ∀ W W' tr, J W tr → Below gi W W' → J W' tr) (hgi : w.heap.size = gi) (f : Int × Int) :
    RunPost w b0 J zeroM f [] [] (.returned (.tuple #[.slice none 0 0, .agg #[.int .i64 0, .int .i64 0, .slice none 0 0, .int .i64 0], .agg #[.int .i64 f.1, .int .i64 f.2]])) wy :=
  ⟨_, _, rfl, CodesAt.nil _ _, World.ownsRow_nil _ _ _ _, h.below.trans (hb.mono hb0), hJ _ _ _ h.kept hb, fun g t cs hc => (h.keep g t cs (hgi ▸ hc.lt) hc).below hb (hgi ▸ hc.lt)⟩
theorem run_bad {gs : List Glob} {rs : List Rout} {inp : List Int} {fuel : Int} {f : Int × Int} (h : runF gs rs inp fuel = f) (h0 : f.1 ≠ 0) : runO gs rs inp fuel = zeroM ∧ runL gs rs inp fuel = [] ∧ runT gs rs inp fuel = [] := by
  subst h
  unfold runO runL runT
  rw [if_pos h0, if_pos h0, if_pos h0]
  exact ⟨rfl, rfl, rfl⟩
theorem run_fine {gs : List Glob} {rs : List Rout} {inp : List Int} {fuel : Int} (h : runF gs rs inp fuel = (0, 0)) : runO gs rs inp fuel = (runS (imgCodes rs) (beginS gs inp) fuel.toNat).told ∧ runL gs rs inp fuel = imgCodes rs ∧ runT gs rs inp fuel = metS (imgCodes rs) (beginS gs inp) fuel.toNat := by
  unfold runO runL runT
  rw [h]
  exact ⟨rfl, rfl, rfl⟩
set_option maxRecDepth 100000 in
theorem zeroFr : Tryd.zeroCells98 = (frCells ⟨0, 0, List.replicate 120 0⟩).toArray := by kernel_rfl
/-- The new machine. -/
theorem mach_new {W : World} {codes : List (List Mac)} {inp : List Int} {cv iv : Value} (hc : CodesAt W W.heap.size cv codes) (hi : IntsAt W W.heap.size iv inp) :
    MachIs (((W.alloc (.cells Tryd.zeroCells98 98)).alloc (.cells #[.pointer (some ⟨W.heap.size, 0, none⟩)] 95)).alloc
      (.cells #[cv, .int .i64 0, .int .i64 0, .int .i64 0, .int .i64 0, .int .i64 0, .int .i64 0, .int .i64 0, .int .i64 0, .int .i64 0, .int .i64 0, .int .i64 0, .int .i64 0, .int .i64 0, .int .i64 0, .int .i64 0, .int .i64 0, .slice none 0 0,
        .slice (some ⟨W.heap.size + 1, 0, none⟩) 1 1, iv, .int .i64 0, .int .i64 0, .slice none 0 0, .int .i64 0, .bool false] 102)) W.heap.size (W.heap.size + 1 + 1) codes (startS [] inp) := by
  rw [zeroFr]
  have hf : Blk (W.alloc (.cells (frCells ⟨0, 0, List.replicate 120 0⟩).toArray 98)) W.heap.size 98 (frCells ⟨0, 0, List.replicate 120 0⟩).toArray := Blk.new _ _ _
  have hA : Below W.heap.size W (W.alloc (.cells (frCells ⟨0, 0, List.replicate 120 0⟩).toArray 98)) := (Below.refl _ _).alloc (Nat.le_refl _) _
  have hs : (W.alloc (.cells (frCells ⟨0, 0, List.replicate 120 0⟩).toArray 98)).heap.size = W.heap.size + 1 := by simp
  generalize W.alloc (.cells (frCells ⟨0, 0, List.replicate 120 0⟩).toArray 98) = W1 at *
  have ho := World.ownsRow_lit (base := W.heap.size) (size := 1) (e := 95) W1 #[.pointer (some ⟨W.heap.size, 0, none⟩)] 1 (by omega) (by decide) rfl
  rw [hs] at ho
  have hf2 := hf.alloc (.cells #[.pointer (some ⟨W.heap.size, 0, none⟩)] 95)
  have hB := hA.alloc (by omega) (.cells #[.pointer (some ⟨W.heap.size, 0, none⟩)] 95)
  have hs2 : (W1.alloc (.cells #[.pointer (some ⟨W.heap.size, 0, none⟩)] 95)).heap.size = W.heap.size + 1 + 1 := by simp [hs]
  generalize W1.alloc (.cells #[.pointer (some ⟨W.heap.size, 0, none⟩)] 95) = W2 at *
  refine ⟨by omega, cv, .slice none 0 0, .slice (some ⟨W.heap.size + 1, 0, none⟩) 1 1, iv, .slice none 0 0, [W.heap.size], ?_, ?_⟩
  · rw [← hs2]
    exact Blk.new W2 _ _
  · have hC := hB.alloc (by omega) (.cells #[cv, .int .i64 0, .int .i64 0, .int .i64 0, .int .i64 0, .int .i64 0, .int .i64 0, .int .i64 0, .int .i64 0, .int .i64 0, .int .i64 0, .int .i64 0, .int .i64 0, .int .i64 0, .int .i64 0, .int .i64 0, .int .i64 0, .slice none 0 0,
        .slice (some ⟨W.heap.size + 1, 0, none⟩) 1 1, iv, .int .i64 0, .int .i64 0, .slice none 0 0, .int .i64 0, .bool false] 102)
    exact ⟨hc.below hC (Nat.le_refl _), World.ownsRow_nil _ _ _ _, World.ownsRow.alloc ho _, hi.below hC (Nat.le_refl _), World.ownsRow_nil _ _ _ _, fun k hk => by simp [Value.ownBlock] at hk, Nat.le_refl _, by simp, hf2.alloc _, trivial⟩
theorem ints_src {w : World} {B n c : Nat} {A : Option Addr} {xs : List Int} (h : IntsAt w B (.slice A n c) xs) : 0 < n → ∃ ad, A = some ad ∧ ∀ j u, (intV xs)[j]? = some u → w.cell? (ad.add j) = some u := by
  intro hn
  obtain ⟨A', c', e, h1, h2, h3⟩ := h
  cases e
  obtain ⟨b, off, e1, _, e3⟩ := h3 hn
  subst e1
  refine ⟨_, rfl, fun j u hj => ?_⟩
  rw [intV_at] at hj
  cases hx : xs[j]? with
  | none => rw [hx] at hj; cases hj
  | some x =>
    rw [hx] at hj
    simp only [Option.map_some, Option.some.injEq] at hj
    subst hj
    have := e3 j x hx
    have e : (⟨b, off, none⟩ : Addr).add j = ⟨b, off + j, none⟩ := by
      unfold Addr.add
      split <;> simp_all
    rw [e]
    exact this
theorem intV_app (a b : List Int) : intV a ++ intV b = intV (a ++ b) := by unfold intV; rw [List.map_append]
theorem intV_rep (m : Nat) : List.replicate m (Value.int .i64 0) = intV (List.replicate m 0) := by unfold intV; rw [List.map_replicate]
/-- Instructions between two blocks' numbers. -/
def MacsHi (w : World) (lo B : Nat) (v : Value) (ms : List Mac) : Prop :=
  ∃ (A : Option Addr) (c : Nat), v = .slice A ms.length c ∧ ms.length ≤ c ∧ ms.length ≤ 9223372036854775807 ∧
    (0 < ms.length → ∃ b off, A = some ⟨b, off, none⟩ ∧ lo ≤ b ∧ b < B ∧ ∀ (k : Nat) (m : Mac), ms[k]? = some m → MacAt w b (off + k * 5) m)
def CodesHi (w : World) (lo B : Nat) (v : Value) (xss : List (List Mac)) : Prop :=
  ∃ (A : Option Addr) (c : Nat), v = .slice A xss.length c ∧ xss.length ≤ c ∧ c ≤ 9223372036854775807 ∧
    (0 < xss.length → ∃ b off, A = some ⟨b, off, none⟩ ∧ lo ≤ b ∧ b < B ∧ ∀ (k : Nat) (xs : List Mac), xss[k]? = some xs → ∃ r, w.cell? ⟨b, off + k, none⟩ = some r ∧ MacsHi w lo B r xs)
section
variable {w w' : World} {lo B : Nat} {v : Value}
theorem MacsHi.turn {ms : List Mac} (h : MacsHi w lo B v ms) (hc : ∀ b o u, lo ≤ b → b < B → w.cell? ⟨b, o, none⟩ = some u → w'.cell? ⟨b, o, none⟩ = some u) : MacsHi w' lo B v ms := by
  obtain ⟨A, c, e, h1, h2, h3⟩ := h
  refine ⟨A, c, e, h1, h2, fun hl => ?_⟩
  obtain ⟨b, off, e1, e2, e3, e4⟩ := h3 hl
  refine ⟨b, off, e1, e2, e3, fun k m hk => ?_⟩
  obtain ⟨a0, a1, a2, a3, a4⟩ := e4 k m hk
  exact ⟨hc _ _ _ e2 e3 a0, hc _ _ _ e2 e3 a1, hc _ _ _ e2 e3 a2, hc _ _ _ e2 e3 a3, hc _ _ _ e2 e3 a4⟩
theorem CodesHi.turn {xss : List (List Mac)} (h : CodesHi w lo B v xss) (hc : ∀ b o u, lo ≤ b → b < B → w.cell? ⟨b, o, none⟩ = some u → w'.cell? ⟨b, o, none⟩ = some u) : CodesHi w' lo B v xss := by
  obtain ⟨A, c, e, h1, h2, h3⟩ := h
  refine ⟨A, c, e, h1, h2, fun hl => ?_⟩
  obtain ⟨b, off, e1, e2, e3, e4⟩ := h3 hl
  refine ⟨b, off, e1, e2, e3, fun k m hk => ?_⟩
  obtain ⟨r, hr, hi⟩ := e4 k m hk
  exact ⟨r, hc _ _ _ e2 e3 hr, hi.turn hc⟩
theorem CodesHi.below {xss : List (List Mac)} (h : CodesHi w lo B v xss) (hb : Below B w w') : CodesHi w' lo B v xss := h.turn fun _ _ _ _ h2 hc => (bcell hb h2).trans hc
theorem CodesHi.kept {xss : List (List Mac)} (h : CodesHi w lo B v xss) (hk : KeepC w w') : CodesHi w' lo B v xss := h.turn fun _ _ _ _ _ hc => hk.cell hc
theorem CodesHi.low {xss : List (List Mac)} (h : CodesHi w lo B v xss) {b o : Nat} (hb : b < lo) (u : Value) : CodesHi (w.setCell ⟨b, o, none⟩ u) lo B v xss :=
  h.turn fun b' o' u' h1 _ hc => (World.cell?_setCell_far w ⟨b, o, none⟩ ⟨b', o', none⟩ u (by show b ≠ b'; omega)).trans hc
theorem MacsHi.to {ms : List Mac} (h : MacsHi w lo B v ms) : MacsAt w B v ms := by
  obtain ⟨A, c, e, h1, h2, h3⟩ := h
  refine ⟨A, c, e, h1, h2, fun hl => ?_⟩
  obtain ⟨b, off, e1, _, e3, e4⟩ := h3 hl
  exact ⟨b, off, e1, e3, e4⟩
theorem CodesHi.to {xss : List (List Mac)} (h : CodesHi w lo B v xss) : CodesAt w B v xss := by
  obtain ⟨A, c, e, h1, h2, h3⟩ := h
  refine ⟨A, c, e, h1, h2, fun hl => ?_⟩
  obtain ⟨b, off, e1, _, e3, e4⟩ := h3 hl
  refine ⟨b, off, e1, e3, fun k m hk => ?_⟩
  obtain ⟨r, hr, hi⟩ := e4 k m hk
  exact ⟨r, hr, hi.to⟩
theorem OwnMacs.hi {ms : List Mac} (h : OwnMacs w lo v ms) : MacsHi w lo w.heap.size v ms := by
  obtain ⟨A, c, e, h1, h2, h3⟩ := h.macs
  refine ⟨A, c, e, h1, h2, fun hl => ?_⟩
  obtain ⟨b, off, e1, e3, e4⟩ := h3 hl
  subst e1
  refine ⟨b, off, rfl, ?_, e3, e4⟩
  subst e
  rcases h.2 with ⟨h', _⟩ | ⟨g', cap', cur', h', hb, _⟩
  · simp at h'
  · simp only [Value.slice.injEq, Option.some.injEq, Addr.mk.injEq, and_true, true_and] at h'
    obtain ⟨⟨rfl, _⟩, _⟩ := h'
    exact hb
theorem CodesOwn.hi {xss : List (List Mac)} (h : CodesOwn w lo v xss) : CodesHi w lo w.heap.size v xss := by
  obtain ⟨rs, h1, h2, h3⟩ := h
  rcases h2.2 with ⟨rfl, hn⟩ | ⟨g, cap, cur, rfl, hlo, hgg, hnc, hcm, _, _⟩
  · have : xss = [] := List.eq_nil_of_length_eq_zero (by omega)
    subst this
    exact ⟨none, 0, rfl, by simp, by omega, fun h => by simp at h⟩
  · refine ⟨some ⟨g, 0, none⟩, cap, by rw [h1], by omega, by unfold maxLen at hcm; omega, fun _ => ⟨g, 0, rfl, hlo, (World.ownsRow.lt h2 g rfl).2, fun k xs hk => ?_⟩⟩
    have hkl : k < rs.length := by have := (List.getElem?_eq_some_iff.1 hk).1; omega
    have hc := World.ownsRow.cells h2 (g := g) rfl k rs[k] (List.getElem?_eq_getElem hkl)
    have e : (⟨g, 0, none⟩ : Addr).add k = ⟨g, 0 + k, none⟩ := by
      unfold Addr.add
      split <;> simp_all
    rw [e] at hc
    exact ⟨_, hc, (h3 k _ xs (List.getElem?_eq_getElem hkl) hk).hi⟩
end
theorem CodesAt.hiForm {w : World} {lo B : Nat} {v : Value} {xss : List (List Mac)} (h : CodesHi w lo B v xss) : ∃ A c, v = .slice A xss.length c := by
  obtain ⟨A, c, e, _⟩ := h
  exact ⟨A, c, e⟩
theorem row_ints {w : World} {base n : Nat} {v : Value} {xs : List Int} (h : w.ownsRow base 3 1 v n (intV xs)) (hn : n = xs.length) : IntsAt w w.heap.size v xs := by
  subst hn
  rcases h.2 with ⟨rfl, h0⟩ | ⟨g, cap, cur, rfl, _, _, h1, h2, _⟩
  · have : xs = [] := List.eq_nil_of_length_eq_zero h0
    subst this
    exact ⟨none, 0, rfl, by simp, by omega, fun h => by simp at h⟩
  · refine ⟨_, cap, rfl, h1, by unfold maxLen at h2; omega, fun _ => ⟨g, 0, rfl, (World.ownsRow.lt h g rfl).2, fun k x hk => ?_⟩⟩
    have hlt := (List.getElem?_eq_some_iff.1 hk).1
    rw [Nat.zero_add, World.ownsRow.cellAt h k (by omega), intV_at, hk]
    rfl
theorem row_le {w : World} {base base' n size : Nat} {e : TypeId} {v : Value} {xs : List Value} (h : w.ownsRow base e size v n xs) (hb : base' ≤ base) : w.ownsRow base' e size v n xs := by
  obtain ⟨h1, h2⟩ := h
  refine ⟨h1, ?_⟩
  rcases h2 with h2 | ⟨g, cap, cur, a, b, c⟩
  · exact .inl h2
  · exact .inr ⟨g, cap, cur, a, by omega, c⟩
/-- How a run that was not refused ends. -/
theorem run_done {w wx : World} {b0 gi base lo n rb : Nat} {gv rv cv ov : Value} {J : World → List (Nat × Nat) → Prop} {tr : List (Nat × Nat)} {css : List (List Mac)} {s : Mch} (h : RunNow w b0 gi gv rv J tr wx) (hC : CodesHi wx lo base cv css) (hlo : gi + 3 ≤ lo) (hbs : base ≤ wx.heap.size)
    (ho : wx.ownsRow rb 3 1 ov n (intV s.out)) (hn : n = s.out.length) (hrb : w.heap.size ≤ rb) (hgi : w.heap.size = gi) (hb0 : b0 ≤ gi) (hJ : ∀ W W' tr, J W tr → Below gi W W' → J W' tr) :
    RunPost w b0 J s (0, 0) css tr (.returned (.tuple #[cv, .agg #[.int .i64 s.state, .int .i64 s.value, ov, .int .i64 (s.steps : Int)], .agg #[.int .i64 0, .int .i64 0]]))
      ((((((wx.setCell ⟨gi + 1, 0, none⟩ (.int .i64 s.state)).setCell ⟨gi + 1, 1, none⟩ (.int .i64 s.value)).setCell ⟨gi + 1, 2, none⟩ ov).setCell ⟨gi + 1, 3, none⟩ (.int .i64 (s.steps : Int))).setCell ⟨gi + 1 + 1, 0, none⟩ (.int .i64 0)).setCell ⟨gi + 1 + 1, 1, none⟩ (.int .i64 0)).drew := by
  have hend := (h.end_ (.int .i64 s.state) (.int .i64 s.value) ov (.int .i64 (s.steps : Int)) (.int .i64 0) (.int .i64 0)).2.2
  have h1 := (((((hC.low (o := 0) (show gi + 1 < lo by omega) (.int .i64 s.state)).low (o := 1) (show gi + 1 < lo by omega) (.int .i64 s.value)).low (o := 2) (show gi + 1 < lo by omega) ov).low (o := 3) (show gi + 1 < lo by omega) (.int .i64 (s.steps : Int))).low (o := 0) (show gi + 1 + 1 < lo by omega) (.int .i64 0)).low (o := 1) (show gi + 1 + 1 < lo by omega) (.int .i64 0)
  have r := h.res
  have f := h.flt
  have o1 := row_far (o := 0) ho r (by decide) (.int .i64 s.state)
  have r1 := r.set_ 0 (.int .i64 s.state)
  have o2 := row_far (o := 1) o1 r1 (by decide) (.int .i64 s.value)
  have r2 := r1.set_ 1 (.int .i64 s.value)
  have o3 := row_far (o := 2) o2 r2 (by decide) ov
  have r3 := r2.set_ 2 ov
  have o4 := row_far (o := 3) o3 r3 (by decide) (.int .i64 (s.steps : Int))
  have f4 := (((f.far (p := ⟨gi + 1, 0, none⟩) (by simp) (.int .i64 s.state)).far (p := ⟨gi + 1, 1, none⟩) (by simp) (.int .i64 s.value)).far (p := ⟨gi + 1, 2, none⟩) (by simp) ov).far (p := ⟨gi + 1, 3, none⟩) (by simp) (.int .i64 (s.steps : Int))
  have o5 := row_far (o := 0) o4 f4 (by decide) (.int .i64 0)
  have f5 := f4.set_ 0 (.int .i64 0)
  have o6 := row_far (o := 1) o5 f5 (by decide) (.int .i64 0)
  clear o1 o2 o3 o4 o5 r1 r2 r3 f4 f5
  generalize (((((wx.setCell ⟨gi + 1, 0, none⟩ (.int .i64 s.state)).setCell ⟨gi + 1, 1, none⟩ (.int .i64 s.value)).setCell ⟨gi + 1, 2, none⟩ ov).setCell ⟨gi + 1, 3, none⟩ (.int .i64 (s.steps : Int))).setCell ⟨gi + 1 + 1, 0, none⟩ (.int .i64 0)).setCell ⟨gi + 1 + 1, 1, none⟩ (.int .i64 0) = W at *
  have hd : Below W.heap.size W W.drew := below_drew1 (Below.refl _ _)
  have hB := below_drew1 (hend.mono (show gi ≤ gi + 1 by omega))
  have hz : base ≤ W.heap.size := Nat.le_trans hbs hend.size
  exact ⟨cv, ov, rfl, (h1.to.more hz).below hd (Nat.le_refl _), (hn ▸ row_le (base' := w.heap.size) o6 hrb : W.ownsRow w.heap.size 3 1 ov s.out.length (intV s.out)), h.below.trans (hB.mono hb0), hJ _ _ _ h.kept hB, fun g t cs hc => (h.keep g t cs (hgi ▸ hc.lt) hc).below hB (hgi ▸ hc.lt)⟩
/-- What stands after so many steps that k are left. -/
def goRel (css : List (List Mac)) (s0 : Mch) (fn : Nat) (w : World) (b0 gi : Nat) (gv rv : Value) (J : World → List (Nat × Nat) → Prop) (base lo hi : Nat) (cv : Value) (k : Nat) (wr : World) : Prop :=
  ∃ j, j + k = fn ∧ Hid (MachIs wr base (base + 1 + 1) css (runS css s0 j)) ∧ Hid ((runS css s0 j).steps = j) ∧ Hid (RunNow w b0 gi gv rv J (metS css s0 j) wr) ∧ Hid (CodesHi wr lo hi cv css)
/-- A row of numbers stands where the results are laid down. -/
theorem RunNow.row {w : World} {b0 gi rb n size : Nat} {gv rv v : Value} {l : List Value} {J : World → List (Nat × Nat) → Prop} {tr : List (Nat × Nat)} {wx : World} (h : RunNow w b0 gi gv rv J tr wx) {e : TypeId} (ho : wx.ownsRow rb e size v n l) (h1 : e ≠ 28) (h2 : e ≠ 30) (a b c d x y : Value) :
    ((((((wx.setCell ⟨gi + 1, 0, none⟩ a).setCell ⟨gi + 1, 1, none⟩ b).setCell ⟨gi + 1, 2, none⟩ c).setCell ⟨gi + 1, 3, none⟩ d).setCell ⟨gi + 1 + 1, 0, none⟩ x).setCell ⟨gi + 1 + 1, 1, none⟩ y).ownsRow rb e size v n l := by
  have r := h.res
  have f := h.flt
  have o1 := row_far (o := 0) ho r h1 a
  have r1 := r.set_ 0 a
  have o2 := row_far (o := 1) o1 r1 h1 b
  have r2 := r1.set_ 1 b
  have o3 := row_far (o := 2) o2 r2 h1 c
  have r3 := r2.set_ 2 c
  have o4 := row_far (o := 3) o3 r3 h1 d
  have f4 := (((f.far (p := ⟨gi + 1, 0, none⟩) (by simp) a).far (p := ⟨gi + 1, 1, none⟩) (by simp) b).far (p := ⟨gi + 1, 2, none⟩) (by simp) c).far (p := ⟨gi + 1, 3, none⟩) (by simp) d
  have o5 := row_far (o := 0) o4 f4 h2 x
  have f5 := f4.set_ 0 x
  exact row_far (o := 1) o5 f5 h2 y
end Go.Proofs.YtkiaffaieniebaaDoor
namespace Go.Proofs.YtkiaffaieniebaaDoor
open Go.RowKit

theorem pos_lt {codes : List (List Mac)} {s : Mch} (hl : codes.length < 5000) (hc : GoodC codes) (hg : GoodS codes s) (ho : s.over = false) : s.pos.1 < 5000 ∧ s.pos.2 < 5000 := by
  unfold Mch.pos
  cases hcs : s.calls with
  | nil => exact absurd hcs (hg.some ho)
  | cons c cs =>
    obtain ⟨ms, h1, h2, _⟩ := hg.frs c (by rw [hcs]; simp)
    have hlt : c.r < codes.length := by
      rcases Nat.lt_or_ge c.r codes.length with h | h
      · exact h
      · rw [List.getElem?_eq_none h] at h1; cases h1
    have := (hc _ _ h1).many
    exact ⟨by show c.r < 5000; omega, by show c.pc < 5000; omega⟩
/-- What the closure that a run is handed does. -/
def MetDoes (F : FuncId) (cap : Array Value) (w : World) (b0 : Nat) (J : World → List (Nat × Nat) → Prop) : Prop :=
  (∀ (a : Array Value) (W : World), (callFunc F a).run Tryd.prog W = .ok (.enter F a) W) ∧
  (∀ (r pc : Nat) (W : World) (tr : List (Nat × Nat)), r < 5000 → pc < 5000 → w.heap.size ≤ W.heap.size → J W tr → Calls Tryd.prog F (#[.int .i64 (r : Int), .int .i64 (pc : Int)] ++ cap) W fun e W' => e = .returned (.tuple #[]) ∧ KeepC W W' ∧ Below b0 W W' ∧ J W' (tr ++ [(r, pc)]))
set_option maxRecDepth 100000 in
set_option maxHeartbeats 8000000 in
theorem run_any (F : FuncId) (cap : Array Value) (gv rv iv : Value) (gs : List Glob) (rs : List Rout) (inp : List Int) (fuel : Int) (w : World) (b0 : Nat) (J : World → List (Nat × Nat) → Prop) (hg : GlobsAt w b0 gv gs) (hr : RoutsAt w b0 rv rs) (hin : IntsAt w b0 iv inp)
    (hgo : GOk gs) (hro : ROk rs) (ht : Tab w) (hb0 : b0 ≤ w.heap.size) (hJ : ∀ W W' tr, J W tr → Below w.heap.size W W' → J W' tr) (hJ0 : J w []) (hF : MetDoes F cap w b0 J) :
    Calls Tryd.prog 33 #[.agg #[gv, rv], iv, .int .i64 fuel, .func (.func F) #[] cap] w (RunPost w b0 J (runO gs rs inp fuel) (runF gs rs inp fuel) (runL gs rs inp fuel) (runT gs rs inp fuel)) := by
  have HF := Lib.hid hF.2
  have HJ := Lib.hid hJ
  have hc := hF.1
  have hA : Below w.heap.size w (((w.alloc (.cells #[gv, rv] 36)).alloc (.cells #[.int .i64 0, .int .i64 0, .slice none 0 0, .int .i64 0] 28)).alloc (.cells #[.int .i64 0, .int .i64 0] 30)) := (((Below.refl _ _).alloc (Nat.le_refl _) _).alloc (by simp) _).alloc (by simp; omega) _
  have HN : Hid (RunNow w b0 w.heap.size gv rv J [] (((w.alloc (.cells #[gv, rv] 36)).alloc (.cells #[.int .i64 0, .int .i64 0, .slice none 0 0, .int .i64 0] 28)).alloc (.cells #[.int .i64 0, .int .i64 0] 30))) := Lib.hid
    ⟨((Blk.new w _ _).alloc _).alloc _, Blk.alloc (by have := Blk.new (w.alloc (.cells #[gv, rv] 36)) 28 #[.int .i64 0, .int .i64 0, .slice none 0 0, .int .i64 0]; simpa using this) _,
      by have := Blk.new ((w.alloc (.cells #[gv, rv] 36)).alloc (.cells #[.int .i64 0, .int .i64 0, .slice none 0 0, .int .i64 0] 28)) 30 #[.int .i64 0, .int .i64 0]; simpa using this, hA.mono hb0, hJ _ _ _ hJ0 hA, fun g t cs hg hc => hc.below hA hg⟩
  have HZ : Hid (w.heap.size + 3 ≤ (((w.alloc (.cells #[gv, rv] 36)).alloc (.cells #[.int .i64 0, .int .i64 0, .slice none 0 0, .int .i64 0] 28)).alloc (.cells #[.int .i64 0, .int .i64 0] 30)).heap.size) := Lib.hid (by simp)
  have HA := Lib.hid hA
  have HG := Lib.hid hg
  have HR := Lib.hid hr
  have HI := Lib.hid hin
  have HGo := Lib.hid hgo
  have HRo := Lib.hid hro
  have HT := Lib.hid ht
  clear hF hJ hA hg hr hin hgo hro ht hJ0
  obtain ⟨fR, hfR⟩ : ∃ f, runF gs rs inp fuel = f := ⟨_, rfl⟩
  obtain ⟨sR, hsR⟩ : ∃ f, runO gs rs inp fuel = f := ⟨_, rfl⟩
  obtain ⟨lR, hlR⟩ : ∃ f, runL gs rs inp fuel = f := ⟨_, rfl⟩
  obtain ⟨tR, htR⟩ : ∃ f, runT gs rs inp fuel = f := ⟨_, rfl⟩
  rw [hfR, hsR, hlR, htR]
  have HfR := Lib.hid hfR
  have HsR := Lib.hid hsR
  have HlR := Lib.hid hlR
  have HtR := Lib.hid htR
  clear hfR hsR hlR htR
  obtain ⟨PE, hPE⟩ : ∃ PE, RunPost w b0 J sR fR lR tR = PE := ⟨_, rfl⟩
  rw [hPE]
  have HPE := Lib.hid hPE
  clear hPE
  obtain ⟨Ai, ci, hiv, hci, hi63, _⟩ := HI.out
  subst hiv
  go_enter Tryd.func33, Tryd.ntmps33
  go_wp2_with fail
  generalize ((w.alloc (.cells #[gv, rv] 36)).alloc (.cells #[.int .i64 0, .int .i64 0, .slice none 0 0, .int .i64 0] 28)).alloc (.cells #[.int .i64 0, .int .i64 0] 30) = W at *
  have hzW : w.heap.size ≤ W.heap.size := by have := HZ.out; omega
  refine (load_any gv rv gs rs W ((HG.out.below HA.out hb0).more (by omega)) ((HR.out.below HA.out hb0).more (by omega)) HGo.out HRo.out (HT.out.own HA.out)).mono ?_
  rintro e w1 ⟨cv, rfl, hco, hb1⟩
  have hz1 : w.heap.size + 3 ≤ w1.heap.size := by have := hb1.size; have := HZ.out; omega
  have HN1 := Lib.hid ((HN.out.next hb1 HZ.out (by omega) HJ.out).next (wy := w1.alloc (.cells #[.int .i64 (machF gs rs).1, .int .i64 (machF gs rs).2] 30)) ((Below.refl w1.heap.size w1).alloc (Nat.le_refl _) _) hz1 (by omega) HJ.out)
  have HF1 := Lib.hid (Blk.new w1 30 #[.int .i64 (machF gs rs).1, .int .i64 (machF gs rs).2])
  have HCo : Hid (CodesHi (w1.alloc (.cells #[.int .i64 (machF gs rs).1, .int .i64 (machF gs rs).2] 30)) W.heap.size w1.heap.size cv (machL gs rs)) := Lib.hid (hco.hi.below ((Below.refl _ _).alloc (Nat.le_refl _) _))
  have HB1 := Lib.hid (HA.out.trans (hb1.mono hzW))
  have p0 := HF1.out.cell 0
  have p1 := HF1.out.cell 1
  clear hb1 hco HN HA
  have r0 := HN1.out.res.cell 0
  have r1 := HN1.out.res.cell 1
  have r2 := HN1.out.res.cell 2
  have r3 := HN1.out.res.cell 3
  have k0 := HN1.out.flt.cell 0
  have k1 := HN1.out.flt.cell 1
  have rf0 := HN1.out.res.frozen 0
  have rf1 := HN1.out.res.frozen 1
  have rf2 := HN1.out.res.frozen 2
  have rf3 := HN1.out.res.frozen 3
  have kf0 := HN1.out.flt.frozen 0
  have kf1 := HN1.out.flt.frozen 1
  have hz2 : w1.heap.size < (w1.alloc (.cells #[.int .i64 (machF gs rs).1, .int .i64 (machF gs rs).2] 30)).heap.size := by simp
  have Hz2 := Lib.hid hz2
  clear hz2
  obtain ⟨Ac, cc, hcv, _⟩ := HCo.out
  subst hcv
  go_upto_region 2 with fail
  generalize w1.alloc (.cells #[.int .i64 (machF gs rs).1, .int .i64 (machF gs rs).2] 30) = W1 at *
  by_cases hf : (machF gs rs).1 = 0
  · have hfb : ((machF gs rs).1 != 0) = false := by simp [hf]
    have Hf := Lib.hid hf
    clear hf
    by_cases hfu : fuel < 0 ∨ 900000 < fuel
    · have Hfu := Lib.hid hfu
      rcases hfu with hfu | hfu
      all_goals
        go_wp2_with fail
        have hE : fR = (3, -1) := by rw [← HfR.out]; unfold runF; rw [if_neg (by rw [Hf.out]; simp), if_pos Hfu.out]
        obtain ⟨e1, e2, e3⟩ := run_bad (HfR.out.trans hE) (by decide)
        rw [HsR.out] at e1
        rw [HlR.out] at e2
        rw [HtR.out] at e3
        have hend := HN1.out.end_ (.int .i64 0) (.int .i64 0) (.slice none 0 0) (.int .i64 0) (.int .i64 3) (.int .i64 (-1))
        refine end_tmp_cells rfl rfl rfl hend.1 hend.2.1 Tryd.underlying28 rfl Tryd.underlying30 rfl (by kernel_rfl) (by kernel_rfl) rfl ?_
        rw [← HPE.out, e1, e2, e3, hE]
        exact run_fault HN1.out (hend.2.2.mono (by omega)) hb0 HJ.out rfl _
    · have Hfu := Lib.hid hfu
      have hfu0 : 0 ≤ fuel := by omega
      have hfu1 : fuel ≤ 900000 := by omega
      clear hfu
      by_cases h30 : 30 < inp.length
      · have H30 := Lib.hid h30
        go_wp2_with fail
        have hE : fR = (2, -1) := by rw [← HfR.out]; unfold runF; rw [if_neg (by rw [Hf.out]; simp), if_neg Hfu.out, if_pos H30.out]
        obtain ⟨e1, e2, e3⟩ := run_bad (HfR.out.trans hE) (by decide)
        rw [HsR.out] at e1
        rw [HlR.out] at e2
        rw [HtR.out] at e3
        have hend := HN1.out.end_ (.int .i64 0) (.int .i64 0) (.slice none 0 0) (.int .i64 0) (.int .i64 2) (.int .i64 (-1))
        refine end_tmp_cells rfl rfl rfl hend.1 hend.2.1 Tryd.underlying28 rfl Tryd.underlying30 rfl (by kernel_rfl) (by kernel_rfl) rfl ?_
        rw [← HPE.out, e1, e2, e3, hE]
        exact run_fault HN1.out (hend.2.2.mono (by omega)) hb0 HJ.out rfl _
      · have h30' : inp.length ≤ 30 := by omega
        have hE : fR = (0, 0) := by rw [← HfR.out]; unfold runF; rw [if_neg (by rw [Hf.out]; simp), if_neg Hfu.out, if_neg h30]
        have HE := Lib.hid hE
        have hd1 : decide (fuel < 0) = false := by simp; omega
        have hd2 : decide (900000 < fuel) = false := by simp; omega
        have hd3 : decide (30 < (inp.length : Int)) = false := by simp; omega
        clear h30 hE
        go_upto_region 9 with fail
        clear hd1 hd2 hd3
        have HMx : Hid (MachIs (((W1.alloc (.cells Tryd.zeroCells98 98)).alloc (.cells #[.pointer (some ⟨W1.heap.size, 0, none⟩)] 95)).alloc
          (.cells #[.slice Ac (machL gs rs).length cc, .int .i64 0, .int .i64 0, .int .i64 0, .int .i64 0, .int .i64 0, .int .i64 0, .int .i64 0, .int .i64 0, .int .i64 0, .int .i64 0, .int .i64 0, .int .i64 0, .int .i64 0, .int .i64 0, .int .i64 0, .int .i64 0, .slice none 0 0,
            .slice (some ⟨W1.heap.size + 1, 0, none⟩) 1 1, .slice Ai inp.length ci, .int .i64 0, .int .i64 0, .slice none 0 0, .int .i64 0, .bool false] 102)) W1.heap.size (W1.heap.size + 1 + 1) (machL gs rs) (startS [] inp)) :=
          Lib.hid (mach_new (HCo.out.to.more (Nat.le_of_lt Hz2.out)) ((HI.out.below HN1.out.below (Nat.le_refl _)).more (by have := Hz2.out; omega)))
        have hBx : Below W1.heap.size W1 (((W1.alloc (.cells Tryd.zeroCells98 98)).alloc (.cells #[.pointer (some ⟨W1.heap.size, 0, none⟩)] 95)).alloc
          (.cells #[.slice Ac (machL gs rs).length cc, .int .i64 0, .int .i64 0, .int .i64 0, .int .i64 0, .int .i64 0, .int .i64 0, .int .i64 0, .int .i64 0, .int .i64 0, .int .i64 0, .int .i64 0, .int .i64 0, .int .i64 0, .int .i64 0, .int .i64 0, .int .i64 0, .slice none 0 0,
            .slice (some ⟨W1.heap.size + 1, 0, none⟩) 1 1, .slice Ai inp.length ci, .int .i64 0, .int .i64 0, .slice none 0 0, .int .i64 0, .bool false] 102)) := (((Below.refl _ _).alloc (Nat.le_refl _) _).alloc (by simp) _).alloc (by simp; omega) _
        have HN2 := Lib.hid (HN1.out.next hBx (by have := Hz2.out; omega) (by have := Hz2.out; omega) HJ.out)
        have HCo2 := Lib.hid (HCo.out.below (hBx.mono (Nat.le_of_lt Hz2.out)))
        clear p0 p1 r0 r1 r2 r3 k0 k1 rf0 rf1 rf2 rf3 kf0 kf1 hBx HN1 HCo HF1
        have Hbase : Hid (w.heap.size + 3 ≤ W1.heap.size) := Lib.hid (by have := Hz2.out; omega)
        generalize (((W1.alloc (.cells Tryd.zeroCells98 98)).alloc (.cells #[.pointer (some ⟨W1.heap.size, 0, none⟩)] 95)).alloc
          (.cells #[.slice Ac (machL gs rs).length cc, .int .i64 0, .int .i64 0, .int .i64 0, .int .i64 0, .int .i64 0, .int .i64 0, .int .i64 0, .int .i64 0, .int .i64 0, .int .i64 0, .int .i64 0, .int .i64 0, .int .i64 0, .int .i64 0, .int .i64 0, .int .i64 0, .slice none 0 0,
            .slice (some ⟨W1.heap.size + 1, 0, none⟩) 1 1, .slice Ai inp.length ci, .int .i64 0, .int .i64 0, .slice none 0 0, .int .i64 0, .bool false] 102)) = W2 at *
        have Hbw : Hid (w1.heap.size ≤ W1.heap.size) := Lib.hid (Nat.le_of_lt Hz2.out)
        generalize hbs : W1.heap.size = base at *
        clear hbs
        have i0 := HN2.out.img.cell 0
        obtain ⟨Ag, cg, hgv, hgc, hg63, _⟩ := HG.out
        subst hgv
        obtain ⟨gl, hgl⟩ : ∃ gl, gs.length = gl := ⟨_, rfl⟩
        have HLg := Lib.hid hgl
        rw [hgl] at hgc i0 HG HN2
        clear hgl
        have Hgood := Lib.hid (glob_good (machF_zero Hf.out).1)
        go_wp2_with fail
        generalize Value.agg #[.slice Ac (machL gs rs).length cc, .int .i64 0, .int .i64 0, .int .i64 0, .int .i64 0, .int .i64 0, .int .i64 0, .int .i64 0, .int .i64 0, .int .i64 0, .int .i64 0, .int .i64 0, .int .i64 0, .int .i64 0, .int .i64 0, .int .i64 0, .int .i64 0, .slice none 0 0,
            .slice (some ⟨base + 1, 0, none⟩) 1 1, .slice Ai inp.length ci, .int .i64 0, .int .i64 0, .slice none 0 0, .int .i64 0, .bool false] = x47
        generalize Value.agg Tryd.zeroCells98 = x44
        generalize Value.tuple #[.slice Ac (machL gs rs).length cc, .agg #[.int .i64 (machF gs rs).1, .int .i64 (machF gs rs).2]] = x16
        generalize Value.agg #[.int .i64 (machF gs rs).1, .int .i64 (machF gs rs).2] = x20
        generalize Value.agg #[.slice Ag gl cg, rv] = x17
        generalize hag : Value.agg #[.slice Ag gs.length cg, rv] = x0
        clear hag
        generalize Value.slice (some ⟨base + 1, 0, none⟩) 1 1 = x46
        generalize Value.int .i64 (machF gs rs).1 = x23
        go_loopw [52] (fun i wr => ∃ k : Nat, k ≤ gl ∧ i = .int .i64 k ∧ Hid (MachIs wr base (base + 1 + 1) (machL gs rs) (startS (memS (gs.take k)) inp)) ∧ Hid (RunNow w b0 w.heap.size (.slice Ag gl cg) rv J [] wr) ∧ Hid (CodesHi wr W.heap.size w1.heap.size (.slice Ac (machL gs rs).length cc) (machL gs rs))) (fun i _ => gl - (intOf i).toNat)
        case atStart => exact ⟨0, Nat.zero_le _, rfl, HMx, HN2, HCo2⟩
        case round =>
          obtain ⟨k, hk, rfl, HMk, HNk, HCk⟩ := hrel
          clear i0 HMx HN2 HCo2
          by_cases hlt : k < gl
          · obtain ⟨A', c', e, _, _, h3⟩ := HG.out
            obtain ⟨bg, og, hA, hbg, hcell⟩ := h3 (by rw [HLg.out]; omega)
            obtain rfl : A' = Ag := ((Value.slice.inj e).1).symm
            clear e
            subst hA
            obtain ⟨⟨gn, gz, gi⟩, hgk⟩ : ∃ g, gs[k]? = some g := ⟨gs[k]'(by rw [HLg.out]; exact hlt), List.getElem?_eq_getElem _⟩
            obtain ⟨gvi, c0, c1, c2, hii⟩ := hcell k _ hgk
            have c0 := (bcell HNk.out.below hbg).trans c0
            have c1 := (bcell HNk.out.below hbg).trans c1
            have c2 := (bcell HNk.out.below hbg).trans c2
            have hii := (hii.below HNk.out.below (Nat.le_refl _))
            simp only at c0 c1 c2 hii
            have Hii := Lib.hid hii
            obtain ⟨Ax, cx, hx, hx1, hx2, _⟩ := hii
            subst hx
            obtain ⟨q1, q2, q3, q4⟩ := Hgood.out.2 k _ hgk
            simp only at q1 q2 q3 q4
            have Hgk := Lib.hid hgk
            clear hgk hcell h3
            obtain ⟨zn, rfl⟩ := Int.eq_ofNat_of_zero_le (show 0 ≤ gz by omega)
            obtain ⟨il, hil⟩ : ∃ il, gi.length = il := ⟨_, rfl⟩
            obtain ⟨mn, hmn⟩ : ∃ mn, zn - il = mn := ⟨_, rfl⟩
            have Hil := Lib.hid hil
            have Hmn := Lib.hid hmn
            rw [hil] at q3 hx1 c2 Hii
            have hsub : (zn : Int) - (il : Int) = (mn : Int) := by omega
            have Hsum := Lib.hid (memS_len (machF_zero Hf.out).1 k (by rw [HLg.out]; omega))
            clear hil hmn q4
            go_upto_region 12 with fail
            have hA3 : Below wr.heap.size wr (wr.alloc (.cells #[.string gn, .int .i64 (zn : Int), .slice Ax il cx] 82)) := (Below.refl _ _).alloc (Nat.le_refl _) _
            have HK3 := Lib.hid (Blk.new wr 82 #[.string gn, .int .i64 (zn : Int), .slice Ax il cx])
            have HM3 := Lib.hid (HMk.out.below hA3)
            have hzr : base + 1 + 1 < wr.heap.size := by obtain ⟨_, _, _, _, _, _, _, h, _⟩ := HMk.out; exact h.lt
            have HN3 := Lib.hid (HNk.out.next hA3 (by have := Hbase.out; omega) (by have := Hbase.out; omega) HJ.out)
            have HC3 := Lib.hid (HCk.out.below (hA3.mono (by have := Hbw.out; omega)))
            have HI3 := Lib.hid (Hii.out.below (hA3.mono (show b0 ≤ wr.heap.size by have := Hbase.out; omega)) (Nat.le_refl _))
            clear hA3 HMk HNk HCk Hii c0 c1 c2
            generalize wr.alloc (.cells #[.string gn, .int .i64 (zn : Int), .slice Ax il cx] 82) = W3 at *
            generalize wr.heap.size = gh at *
            obtain ⟨hgb, cv3, mv3, lv3, iv3, ov3, ps3, h3⟩ := HM3.out
            obtain ⟨Am, cm, hmv⟩ := row_form h3.2.hmem
            subst hmv
            obtain ⟨n0, hn0⟩ : ∃ n0, (startS (memS (gs.take k)) inp).mem.length = n0 := ⟨_, rfl⟩
            have HO3 : Hid (W3.ownsRow base 3 1 (.slice Am n0 cm) n0 (intV (memS (gs.take k)))) := Lib.hid (by have := h3.2.hmem; rw [← hn0]; exact this)
            rw [hn0] at h3
            have Hn0 : Hid ((memS (gs.take k)).length = n0) := Lib.hid hn0
            have hn200 : n0 ≤ 200 := by have h1 := Hsum.out; have h2 := Hn0.out; omega
            have c17 : W3.cell? ⟨base + 1 + 1, 17, none⟩ = some (.slice Am n0 cm) := (h3.1.cell 17).trans (mach_tail (by simp [startS]) 0)
            have H3 := Lib.hid h3
            have g0 := HK3.out.cell 0
            have g1 := HK3.out.cell 1
            have g2 := HK3.out.cell 2
            clear h3 hn0
            have hwm : IntKind.i64.wrap (mn : Int) = (mn : Int) := by rw [IntKind.wrap_i64]; omega
            have HL6 : Hid (n0 + il + mn = (memS (gs.take k) ++ gi ++ List.replicate mn 0).length) := Lib.hid (by rw [List.length_append, List.length_append, List.length_replicate, Hn0.out, Hil.out])
            have HV6 : Hid (intV (memS (gs.take k)) ++ intV gi ++ List.replicate mn (Value.int .i64 0) = intV (memS (gs.take k) ++ gi ++ List.replicate mn 0)) := Lib.hid (by rw [intV_app, intV_rep, intV_app])
            have HReg : Hid ((startS (memS (gs.take k)) inp).regs.length = 16) := Lib.hid (by simp [startS])
            have HSrc : Hid (0 < il → ∃ ad, Ax = some ad ∧ ∀ j u, (intV gi)[j]? = some u → W3.drew.cell? (ad.add j) = some u) := Lib.hid (ints_src (w := W3) HI3.out)
            have HLen : Hid ((intV gi).length = il * 1) := Lib.hid (by rw [intV_len, Hil.out, Nat.mul_one])
            have HSz : Hid (base ≤ W3.drew.heap.size) := Lib.hid (by have := H3.out.1.lt; show base ≤ W3.heap.size; omega)
            have HSm : Hid (n0 + il ≤ 4000000000) := Lib.hid (by omega)
            have HL5 : Hid (n0 + il = (memS (gs.take k) ++ gi).length) := Lib.hid (by rw [List.length_append, Hn0.out, Hil.out])
            have HP3 := Lib.hid (pair_below hgb H3.out (below_drew1 (Below.refl W3.heap.size W3)))
            obtain ⟨B5, c5, w5, hr5, ap5⟩ := run_app_src (P := Tryd.prog) (w := W3.drew) 26 26 3 (.int .i64 0) 1 8 Tryd.underlying26 infoInt rfl (by decide) (by decide) base (.slice Am n0 cm) n0 (intV (memS (gs.take k))) (World.ownsRow.drew HO3.out) Ax il cx (intV gi) HLen.out HSrc.out (intV_one _) HSm.out HSz.out
            have HK5 := Lib.hid (ap5.blk (World.ownsRow.drew HO3.out) (show Blk (World.drew W3) gh _ _ from HK3.out) (by decide))
            have HP5 := Lib.hid (MRest.grow (mem' := memS (gs.take k) ++ gi) HP3.out rfl HL5.out (intV_app _ _) ap5)
            obtain ⟨B6, c6, w6, hr6, ap6⟩ := run_app_made (P := Tryd.prog) (w := w5) 26 3 26 3 .i64 .i64 (.int .i64 0) 8 Tryd.underlying26 Tryd.underlying3 infoInt rfl rfl (by decide) base (.slice B5 (n0 + il) c5) (n0 + il) (intV (memS (gs.take k)) ++ intV gi) ap5.own mn (by omega) (by have := HP5.out.1.lt; omega)
            have HK6 := Lib.hid (ap6.blk ap5.own HK5.out (by decide))
            have HP6 := Lib.hid (MRest.grow (mem' := memS (gs.take k) ++ gi ++ List.replicate mn 0) HP5.out rfl HL6.out HV6.out ap6)
            have HB6 := Lib.hid (ap5.below.trans ap6.below)
            have Hr5 := Lib.hid hr5
            have Hr6 := Lib.hid hr6
            have HF : Hid (∀ w', w' = W3.drew ∨ w' = w5 ∨ w' = w6 → w'.cell? ⟨gh, 1, none⟩ = some (.int .i64 (zn : Int)) ∧ w'.cell? ⟨gh, 2, none⟩ = some (.slice Ax il cx) ∧ w'.cell? ⟨base + 1 + 1, 17, none⟩ = some (.slice Am n0 cm)) := Lib.hid (by
              rintro w' (rfl | rfl | rfl)
              · exact ⟨HK3.out.cell 1, HK3.out.cell 2, (HP3.out.1.cell 17).trans (mach_tail HReg.out 0)⟩
              · exact ⟨HK5.out.cell 1, HK5.out.cell 2, (HP5.out.1.cell 17).trans (mach_tail HReg.out 0)⟩
              · exact ⟨HK6.out.cell 1, HK6.out.cell 2, (HP6.out.1.cell 17).trans (mach_tail HReg.out 0)⟩)
            have e17 := (HP6.out.1.cell 17).trans (mach_tail HReg.out 0)
            simp only [List.getElem?_cons_zero] at e17
            have ef17 := HP6.out.1.frozen 17
            clear hr5 hr6 ap5 ap6 c17 g0 g1 g2
            refine wp_region_lex (Three W3.drew w5 w6 (w6.setCell ⟨base + 1 + 1, 17, none⟩ (.slice B6 (n0 + il + mn) c6)) 7 14 17 15) (by kernel_rfl) (by kernel_rfl) Three.start ?_
            iterate 7
              apply wpLex_step
              · rfl
              · intro L w' hC hL hd
                clear hd
                have F := HF.out w' (hC.pend hL (by decide))
                have HC := Lib.hid hC
                clear hC
                go_simp
                exact ⟨HC.out.keep _ (by decide) (by decide) (by decide), rfl⟩
              simp only [Act.put, List.setIfInBounds_toArray, List.set_cons_succ, List.set_cons_zero, Nat.reduceAdd]
            apply wpLex_step
            · rfl
            · intro L w' hC hL hd
              obtain ⟨rfl, hC2⟩ := hC.at1 hL (by decide) (by decide) (by decide)
              rw [exec_app (.tmp 60) (.tmp 62) 26 26 rfl _ _ _ _ rfl rfl Hr5.out]
              exact ⟨hC2, rfl⟩
            simp only [Act.put, List.setIfInBounds_toArray, List.set_cons_succ, List.set_cons_zero, Nat.reduceAdd]
            iterate 6
              apply wpLex_step
              · rfl
              · intro L w' hC hL hd
                clear hd
                have F := HF.out w' (hC.pend hL (by decide))
                have HC := Lib.hid hC
                clear hC
                go_simp
                exact ⟨HC.out.keep _ (by decide) (by decide) (by decide), rfl⟩
              simp only [Act.put, List.setIfInBounds_toArray, List.set_cons_succ, List.set_cons_zero, Nat.reduceAdd]
            apply wpLex_step
            · rfl
            · intro L w' hC hL hd
              obtain ⟨rfl, hC2⟩ := hC.at2 hL (hd ⟨7, .data⟩ (by simp) rfl) (by decide) (by decide)
              rw [exec_app (.tmp 63) (.tmp 69) 26 3 rfl _ _ _ _ rfl rfl Hr6.out]
              exact ⟨hC2, rfl⟩
            simp only [Act.put, List.setIfInBounds_toArray, List.set_cons_succ, List.set_cons_zero, Nat.reduceAdd]
            iterate 2
              apply wpLex_step
              · rfl
              · intro L w' hC hL hd
                clear hd
                have HC := Lib.hid hC
                clear hC
                go_simp
                exact ⟨HC.out.keep _ (by decide) (by decide) (by decide), rfl⟩
              simp only [Act.put, List.setIfInBounds_toArray, List.set_cons_succ, List.set_cons_zero, Nat.reduceAdd]
            apply wpLex_step
            · rfl
            · intro L w' hC hL hd
              obtain ⟨hw, hC2⟩ := hC.at3 hL (cover (m := 15) (by kernel_rfl) hd) (by decide) (by decide)
              subst hw
              have HC2 := Lib.hid hC2
              clear hd hC hL hC2
              go_simp
              exact ⟨HC2.out, rfl⟩
            simp only [Act.put, Nat.reduceAdd]
            apply wpLex_nil
            intro L w' hC hd
            obtain rfl := hC.end_ (hd 17 (by decide))
            clear hC hd
            go_wp2_with fail
            go_roundw
            case rel =>
              have hm : memS (gs.take (k + 1)) = memS (gs.take k) ++ gi ++ List.replicate mn 0 := by
                rw [memS_snoc _ _ _ Hgk.out, List.append_assoc]
                unfold wordsG
                rw [show (zn : Int).toNat - gi.length = mn by rw [Hil.out]; exact Hmn.out]
              have hB7 : Below base W3 (w6.setCell ⟨base + 1 + 1, 17, none⟩ (.slice B6 (n0 + il + mn) c6)) := (Below.trans (below_drew1 (Below.refl base W3)) HB6.out).setCell hgb _
              refine ⟨k + 1, by omega, by go_num, Lib.hid ?_, Lib.hid (HN3.out.next hB7 (by have := Hbase.out; omega) (by have := Hbase.out; omega) HJ.out), Lib.hid (HC3.out.below (hB7.mono Hbw.out))⟩
              rw [hm]
              exact mk_is hgb (mset HP6.out hgb (mach_set_mem _ HReg.out)) rfl rfl rfl rfl
            case measure => simp [intOf]; omega
          · obtain rfl : k = gl := by omega
            have HM0 : Hid (MachIs wr base (base + 1 + 1) (machL gs rs) (runS (machL gs rs) (beginS gs inp) 0)) := Lib.hid (by have := HMk.out; rw [List.take_of_length_le (by rw [HLg.out]; exact Nat.le_refl _)] at this; exact this)
            obtain ⟨fn, rfl⟩ := Int.eq_ofNat_of_zero_le hfu0
            have hcs : machL gs rs = imgCodes rs := by unfold machL; rw [if_pos Hf.out]
            have HGc : Hid (GoodC (machL gs rs)) := Lib.hid (by rw [hcs]; exact goodC_of HRo.out Hf.out)
            have HGs : Hid (GoodS (machL gs rs) (beginS gs inp)) := Lib.hid (by rw [hcs]; exact good_begin HRo.out Hf.out h30')
            obtain ⟨e1, e2, e3⟩ := run_fine (HfR.out.trans HE.out)
            rw [HsR.out, ← hcs] at e1
            rw [HlR.out, ← hcs] at e2
            rw [HtR.out, ← hcs] at e3
            have E1 := Lib.hid e1
            have E2 := Lib.hid e2
            have E3 := Lib.hid e3
            have HLc : Hid ((machL gs rs).length < 5000) := Lib.hid (by rw [hcs]; have := (machF_zero Hf.out).2.2.1; unfold imgCodes; rw [List.length_map]; omega)
            clear hcs e1 e2 e3 HMk
            go_wp2_with fail
            generalize hcss : machL gs rs = css at *
            clear hcss
            generalize hs0 : beginS gs inp = s0 at *
            have Hs0 : Hid (s0.steps = 0) := Lib.hid (by rw [← hs0]; rfl)
            clear hs0
            go_loopg [] fn (goRel css s0 fn w b0 w.heap.size (.slice Ag k cg) rv J base W.heap.size w1.heap.size (.slice Ac css.length cc))
            case atStart => exact ⟨0, by omega, HM0, Hs0, HNk, HCk⟩
            case round =>
              obtain ⟨j, hj, HMj, HSj, HNj, HCj⟩ := hrel
              obtain ⟨sj, hsj⟩ : ∃ sj, runS css s0 j = sj := ⟨_, rfl⟩
              have HGj := Lib.hid (good_run HGc.out HGs.out j)
              have Hsj := Lib.hid hsj
              rw [hsj] at HMj HSj HGj
              clear hsj HM0 HNk HCk
              obtain ⟨hgb, cvj, mvj, lvj, ivj, ovj, psj, hmj⟩ := HMj.out
              obtain ⟨Aoj, coj, hovj⟩ := row_form hmj.2.hout
              subst hovj
              have d24 : wr.cell? ⟨base + 1 + 1, 24, none⟩ = some (.bool sj.over) := (hmj.1.cell 24).trans (mach_tail HGj.out.regs 7)
              have d23 : wr.cell? ⟨base + 1 + 1, 23, none⟩ = some (.int .i64 (j : Int)) := by rw [← HSj.out]; exact (hmj.1.cell 23).trans (mach_tail HGj.out.regs 6)
              have d20 : wr.cell? ⟨base + 1 + 1, 20, none⟩ = some (.int .i64 sj.state) := (hmj.1.cell 20).trans (mach_tail HGj.out.regs 3)
              have d21 : wr.cell? ⟨base + 1 + 1, 21, none⟩ = some (.int .i64 sj.value) := (hmj.1.cell 21).trans (mach_tail HGj.out.regs 4)
              have d22 : wr.cell? ⟨base + 1 + 1, 22, none⟩ = some (.slice Aoj sj.out.length coj) := (hmj.1.cell 22).trans (mach_tail HGj.out.regs 5)
              have df20 := hmj.1.frozen 20
              have HPj := Lib.hid hmj
              obtain ⟨ob, hob⟩ : ∃ ob, sj.over = ob := ⟨_, rfl⟩
              have HOb := Lib.hid hob
              rw [hob] at d24
              clear hmj hob
              cases ob
              · by_cases hlt : j < fn
                · go_wp2_with fail
                  refine (step_any wr base (base + 1 + 1) css sj HMj.out HGc.out HGj.out HOb.out (by have := HSj.out; omega)).mono ?_
                  rintro e w2 ⟨rfl, hm2, hb2⟩
                  have HM2 := Lib.hid hm2
                  have HN2 := Lib.hid (HNj.out.next hb2 (by have := Hbase.out; omega) (by have := Hbase.out; omega) HJ.out)
                  have HC2 := Lib.hid (HCj.out.below (hb2.mono Hbw.out))
                  have hz2 : w.heap.size ≤ w2.heap.size := by have := hb2.size; have := Hbase.out; have := HPj.out.1.lt; omega
                  clear hm2 hb2 d20 d21 d22 d23 d24 df20
                  go_wp2_with fail
                  have hps := pos_lt HLc.out HGc.out HGj.out HOb.out
                  refine (HF.out sj.pos.1 sj.pos.2 w2 (metS css s0 j) hps.1 hps.2 hz2 HN2.out.kept).mono ?_
                  rintro e w3 ⟨rfl, hk3, hb3, hJ3⟩
                  have ho : (runS css s0 j).over = false := by rw [Hsj.out]; exact HOb.out
                  obtain ⟨e1, e2⟩ := run_succ ho
                  rw [Hsj.out] at e1 e2
                  have E1' := Lib.hid e1
                  have E2' := Lib.hid e2
                  have HM3 := Lib.hid (HM2.out.kept hk3)
                  have HC3 := Lib.hid (HC2.out.kept hk3)
                  have HN3 := Lib.hid (HN2.out.met hk3 hb3 hJ3)
                  have HS3 : Hid ((runS css s0 (j + 1)).steps = j + 1) := Lib.hid (by rw [e1, step_steps HGj.out HOb.out, HSj.out])
                  clear hk3 hb3 hJ3 ho e1 e2
                  go_wp2_with fail
                  go_roundg (fn - (j + 1))
                  case measure => omega
                  case rel => exact ⟨j + 1, by omega, by rw [E1'.out]; exact HM3, HS3, by rw [E2'.out]; exact HN3, HC3⟩
                · obtain rfl : j = fn := by omega
                  go_upto_region 18 with fail
                  have H2 := Lib.hid (mset HPj.out hgb (mach_set_state 1 HGj.out.regs))
                  have hB2 : Below base wr (wr.setCell ⟨base + 1 + 1, 20, none⟩ (.int .i64 1)) := (Below.refl _ _).setCell hgb _
                  have HN2 := Lib.hid (HNj.out.next hB2 (by have := Hbase.out; omega) (by have := Hbase.out; omega) HJ.out)
                  have HC2 := Lib.hid (HCj.out.below (hB2.mono Hbw.out))
                  clear hB2 d20 d21 d22 d23 d24 df20
                  generalize wr.setCell ⟨base + 1 + 1, 20, none⟩ (.int .i64 1) = w2 at *
                  have d23 : w2.cell? ⟨base + 1 + 1, 23, none⟩ = some (.int .i64 (j : Int)) := by rw [← HSj.out]; exact (H2.out.1.cell 23).trans (mach_tail (s := { sj with state := 1 }) HGj.out.regs 6)
                  have d20 : w2.cell? ⟨base + 1 + 1, 20, none⟩ = some (.int .i64 1) := (H2.out.1.cell 20).trans (mach_tail (s := { sj with state := 1 }) HGj.out.regs 3)
                  have d21 : w2.cell? ⟨base + 1 + 1, 21, none⟩ = some (.int .i64 sj.value) := (H2.out.1.cell 21).trans (mach_tail (s := { sj with state := 1 }) HGj.out.regs 4)
                  have d22 : w2.cell? ⟨base + 1 + 1, 22, none⟩ = some (.slice Aoj sj.out.length coj) := (H2.out.1.cell 22).trans (mach_tail (s := { sj with state := 1 }) HGj.out.regs 5)
                  have q0 := HN2.out.res.cell 0
                  have q1 := HN2.out.res.cell 1
                  have q2 := HN2.out.res.cell 2
                  have q3 := HN2.out.res.cell 3
                  have qf0 := HN2.out.res.frozen 0
                  have qf1 := HN2.out.res.frozen 1
                  have qf2 := HN2.out.res.frozen 2
                  have qf3 := HN2.out.res.frozen 3
                  have t0 := HN2.out.flt.cell 0
                  have t1 := HN2.out.flt.cell 1
                  have tf0 := HN2.out.flt.frozen 0
                  have tf1 := HN2.out.flt.frozen 1
                  go_region
                  all_goals
                    go_wp2_with fail
                    have hS := HSj.out
                    subst hS
                    have hT : sj.told = { sj with state := 1 } := by unfold Mch.told; rw [HOb.out]; rfl
                    have hend := HN2.out.end_ (.int .i64 1) (.int .i64 sj.value) (.slice Aoj sj.out.length coj) (.int .i64 (sj.steps : Int)) (.int .i64 0) (.int .i64 0)
                    refine end_tmp_cells rfl rfl rfl hend.1.drew hend.2.1.drew Tryd.underlying28 rfl Tryd.underlying30 rfl (by kernel_rfl) (by kernel_rfl) rfl ?_
                    rw [← HPE.out, E1.out, E2.out, E3.out, HE.out, Int.toNat_natCast, Hsj.out, hT]
                    exact run_done (s := { sj with state := 1 }) HN2.out HC2.out HZ.out (by have := H2.out.1.lt; have := Hbw.out; omega) H2.out.2.hout rfl (by have := Hbase.out; omega) rfl hb0 HJ.out
              · go_wp2_with fail
                have q0 := HNj.out.res.cell 0
                have q1 := HNj.out.res.cell 1
                have q2 := HNj.out.res.cell 2
                have q3 := HNj.out.res.cell 3
                have qf0 := HNj.out.res.frozen 0
                have qf1 := HNj.out.res.frozen 1
                have qf2 := HNj.out.res.frozen 2
                have qf3 := HNj.out.res.frozen 3
                have t0 := HNj.out.flt.cell 0
                have t1 := HNj.out.flt.cell 1
                have tf0 := HNj.out.flt.frozen 0
                have tf1 := HNj.out.flt.frozen 1
                go_region
                all_goals
                  go_wp2_with fail
                  have hS := HSj.out
                  subst hS
                  have ho : (runS css s0 sj.steps).over = true := by rw [Hsj.out]; exact HOb.out
                  obtain ⟨e1, e2⟩ := run_over ho fn (by omega)
                  have hend := HNj.out.end_ (.int .i64 sj.state) (.int .i64 sj.value) (.slice Aoj sj.out.length coj) (.int .i64 (sj.steps : Int)) (.int .i64 0) (.int .i64 0)
                  refine end_tmp_cells rfl rfl rfl hend.1.drew hend.2.1.drew Tryd.underlying28 rfl Tryd.underlying30 rfl (by kernel_rfl) (by kernel_rfl) rfl ?_
                  rw [← HPE.out, E1.out, E2.out, E3.out, HE.out, Int.toNat_natCast, e1, e2, Hsj.out, show sj.told = sj by unfold Mch.told; rw [HOb.out]; rfl]
                  exact run_done HNj.out HCj.out HZ.out (by have := HPj.out.1.lt; have := Hbw.out; omega) HPj.out.2.hout rfl (by have := Hbase.out; omega) rfl hb0 HJ.out
  · have hfb : ((machF gs rs).1 != 0) = true := by simp [hf]
    have Hf := Lib.hid hf
    clear hf
    go_wp2_with fail
    go_region
    all_goals
      go_wp2_with fail
      have hE : fR = machF gs rs := by rw [← HfR.out]; unfold runF; rw [if_pos Hf.out]
      obtain ⟨e1, e2, e3⟩ := run_bad (HfR.out.trans hE) Hf.out
      rw [HsR.out] at e1
      rw [HlR.out] at e2
      rw [HtR.out] at e3
      have hend := HN1.out.end_ (.int .i64 0) (.int .i64 0) (.slice none 0 0) (.int .i64 0) (.int .i64 (machF gs rs).1) (.int .i64 (machF gs rs).2)
      refine end_tmp_cells rfl rfl rfl hend.1.drew hend.2.1.drew Tryd.underlying28 rfl Tryd.underlying30 rfl (by kernel_rfl) (by kernel_rfl) rfl ?_
      rw [← HPE.out, e1, e2, e3, hE]
      exact run_fault HN1.out (below_drew1 (hend.2.2.mono (by omega))) hb0 HJ.out rfl _
end Go.Proofs.YtkiaffaieniebaaDoor
namespace Go.Proofs.YtkiaffaieniebaaDoor
open Go.RowKit

/-- What a run says: its outcome, its fault. -/
def OutPost (w : World) (s : Mch) (f : Int × Int) (e : Ending) (w' : World) : Prop :=
  ∃ ov, e = .returned (.tuple #[.agg #[.int .i64 s.state, .int .i64 s.value, ov, .int .i64 (s.steps : Int)], .agg #[.int .i64 f.1, .int .i64 f.2]]) ∧ w'.ownsRow w.heap.size 3 1 ov s.out.length (intV s.out) ∧ Below w.heap.size w w'
theorem run1_any (r pc : Int) (w : World) : Calls Tryd.prog 34 #[.int .i64 r, .int .i64 pc] w fun e w' => e = .returned (.tuple #[]) ∧ w = w' := by
  go_enter Tryd.func34, Tryd.ntmps34
  go_wp2_with fail
  go_end0
  exact ⟨rfl, rfl⟩
theorem run1_does (w : World) (b0 : Nat) : MetDoes 34 #[] w b0 (fun _ _ => True) := by
  refine ⟨fun a W => MuLone.run_callFunc_enter Tryd.func34 (by kernel_rfl) rfl a W, fun r pc W tr _ _ _ _ => ?_⟩
  refine (run1_any (r : Int) (pc : Int) W).mono ?_
  rintro e w' ⟨rfl, rfl⟩
  exact ⟨rfl, KeepC.refl _, Below.refl _ _, trivial⟩
set_option maxRecDepth 100000 in
set_option maxHeartbeats 2000000 in
theorem Run_any (gv rv iv : Value) (gs : List Glob) (rs : List Rout) (inp : List Int) (fuel : Int) (w : World) (hg : GlobsAt w w.heap.size gv gs) (hr : RoutsAt w w.heap.size rv rs) (hin : IntsAt w w.heap.size iv inp)
    (hgo : GOk gs) (hro : ROk rs) (ht : Tab w) : Calls Tryd.prog 14 #[.agg #[gv, rv], iv, .int .i64 fuel] w (OutPost w (runO gs rs inp fuel) (runF gs rs inp fuel)) := by
  have hA : Below w.heap.size w (((w.alloc (.cells #[gv, rv] 36)).alloc (.cells #[.int .i64 0, .int .i64 0, .slice none 0 0, .int .i64 0] 28)).alloc (.cells #[.int .i64 0, .int .i64 0] 30)) := (((Below.refl _ _).alloc (Nat.le_refl _) _).alloc (by simp) _).alloc (by simp; omega) _
  have HN : Hid (RunNow w w.heap.size w.heap.size gv rv (fun _ _ => True) [] (((w.alloc (.cells #[gv, rv] 36)).alloc (.cells #[.int .i64 0, .int .i64 0, .slice none 0 0, .int .i64 0] 28)).alloc (.cells #[.int .i64 0, .int .i64 0] 30))) := Lib.hid
    ⟨((Blk.new w _ _).alloc _).alloc _, Blk.alloc (by have := Blk.new (w.alloc (.cells #[gv, rv] 36)) 28 #[.int .i64 0, .int .i64 0, .slice none 0 0, .int .i64 0]; simpa using this) _,
      by have := Blk.new ((w.alloc (.cells #[gv, rv] 36)).alloc (.cells #[.int .i64 0, .int .i64 0, .slice none 0 0, .int .i64 0] 28)) 30 #[.int .i64 0, .int .i64 0]; simpa using this, hA, trivial, fun g t cs hg hc => hc.below hA hg⟩
  have HZ : Hid (w.heap.size + 3 ≤ (((w.alloc (.cells #[gv, rv] 36)).alloc (.cells #[.int .i64 0, .int .i64 0, .slice none 0 0, .int .i64 0] 28)).alloc (.cells #[.int .i64 0, .int .i64 0] 30)).heap.size) := Lib.hid (by simp)
  have HCall := Lib.hid (run_any 34 #[] gv rv iv gs rs inp fuel (((w.alloc (.cells #[gv, rv] 36)).alloc (.cells #[.int .i64 0, .int .i64 0, .slice none 0 0, .int .i64 0] 28)).alloc (.cells #[.int .i64 0, .int .i64 0] 30)) w.heap.size (fun _ _ => True)
    (hg.below hA (Nat.le_refl _)) (hr.below hA (Nat.le_refl _)) (hin.below hA (Nat.le_refl _)) hgo hro (ht.own hA) (by have := HZ.out; omega) (fun _ _ _ _ _ => trivial) trivial (run1_does _ _))
  clear hA hg hr hin hgo hro ht
  obtain ⟨fR, hfR⟩ : ∃ f, runF gs rs inp fuel = f := ⟨_, rfl⟩
  obtain ⟨sR, hsR⟩ : ∃ f, runO gs rs inp fuel = f := ⟨_, rfl⟩
  rw [hfR, hsR] at HCall ⊢
  clear hfR hsR
  obtain ⟨f1, f2⟩ := fR
  obtain ⟨PE, hPE⟩ : ∃ PE, OutPost w sR (f1, f2) = PE := ⟨_, rfl⟩
  rw [hPE]
  have HPE := Lib.hid hPE
  clear hPE
  go_enter Tryd.func14, Tryd.ntmps14
  go_wp2_with fail
  generalize ((w.alloc (.cells #[gv, rv] 36)).alloc (.cells #[.int .i64 0, .int .i64 0, .slice none 0 0, .int .i64 0] 28)).alloc (.cells #[.int .i64 0, .int .i64 0] 30) = W at *
  refine HCall.out.mono ?_
  rintro e w1 ⟨v, ov, rfl, _, hov, hb1, _, hkeep⟩
  obtain ⟨Ao, co, rfl⟩ := row_form hov
  obtain ⟨n, hn⟩ : ∃ n, sR.out.length = n := ⟨_, rfl⟩
  have Hn := Lib.hid hn
  rw [hn] at hov
  have HO := Lib.hid hov
  have hzW := HZ.out
  have hA2 : Below w1.heap.size w1 ((w1.alloc (.cells #[.int .i64 sR.state, .int .i64 sR.value, .slice Ao n co, .int .i64 (sR.steps : Int)] 28)).alloc (.cells #[.int .i64 f1, .int .i64 f2] 30)) := ((Below.refl _ _).alloc (Nat.le_refl _) _).alloc (by simp) _
  have hz1 : W.heap.size ≤ w1.heap.size := hb1.size
  have HN2 : Hid (RunNow w w.heap.size w.heap.size gv rv (fun _ _ => True) [] ((w1.alloc (.cells #[.int .i64 sR.state, .int .i64 sR.value, .slice Ao n co, .int .i64 (sR.steps : Int)] 28)).alloc (.cells #[.int .i64 f1, .int .i64 f2] 30))) := Lib.hid
    ⟨(hkeep _ _ _ HN.out.img).below hA2 (by omega), (hkeep _ _ _ HN.out.res).below hA2 (by omega), (hkeep _ _ _ HN.out.flt).below hA2 (by omega), HN.out.below.trans (hb1.trans (hA2.mono (by omega))), trivial, fun g t cs hg hc => ((hc.below HN.out.below hg).below hb1 hg).below hA2 (by omega)⟩
  have HK9 := Lib.hid ((Blk.new w1 28 #[.int .i64 sR.state, .int .i64 sR.value, .slice Ao n co, .int .i64 (sR.steps : Int)]).alloc (.cells #[.int .i64 f1, .int .i64 f2] 30))
  have HK10 : Hid (Blk ((w1.alloc (.cells #[.int .i64 sR.state, .int .i64 sR.value, .slice Ao n co, .int .i64 (sR.steps : Int)] 28)).alloc (.cells #[.int .i64 f1, .int .i64 f2] 30)) (w1.heap.size + 1) 30 #[.int .i64 f1, .int .i64 f2]) := Lib.hid (by
    have := Blk.new (w1.alloc (.cells #[.int .i64 sR.state, .int .i64 sR.value, .slice Ao n co, .int .i64 (sR.steps : Int)] 28)) 30 #[.int .i64 f1, .int .i64 f2]
    simpa using this)
  have HO2 := Lib.hid (row_lt HO.out hA2)
  clear hkeep hov hb1 hA2 hn HN HCall
  go_upto_region 2 with fail
  rw [Hn.out]
  generalize (w1.alloc (.cells #[.int .i64 sR.state, .int .i64 sR.value, .slice Ao n co, .int .i64 (sR.steps : Int)] 28)).alloc (.cells #[.int .i64 f1, .int .i64 f2] 30) = W2 at *
  generalize w1.heap.size = g1 at *
  have a0 := HK9.out.cell 0
  have a1 := HK9.out.cell 1
  have a2 := HK9.out.cell 2
  have a3 := HK9.out.cell 3
  have b0 := HK10.out.cell 0
  have b1 := HK10.out.cell 1
  have r0 := HN2.out.res.cell 0
  have r1 := HN2.out.res.cell 1
  have r2 := HN2.out.res.cell 2
  have r3 := HN2.out.res.cell 3
  have k0 := HN2.out.flt.cell 0
  have k1 := HN2.out.flt.cell 1
  have rf0 := HN2.out.res.frozen 0
  have rf1 := HN2.out.res.frozen 1
  have rf2 := HN2.out.res.frozen 2
  have rf3 := HN2.out.res.frozen 3
  have kf0 := HN2.out.flt.frozen 0
  have kf1 := HN2.out.flt.frozen 1
  go_region
  all_goals
    go_wp2_with fail
    have hend := HN2.out.end_ (.int .i64 sR.state) (.int .i64 sR.value) (.slice Ao n co) (.int .i64 (sR.steps : Int)) (.int .i64 f1) (.int .i64 f2)
    have hrow := HN2.out.row HO2.out (by decide) (by decide) (.int .i64 sR.state) (.int .i64 sR.value) (.slice Ao n co) (.int .i64 (sR.steps : Int)) (.int .i64 f1) (.int .i64 f2)
    refine end_cells rfl rfl rfl hend.1.drew hend.2.1.drew Tryd.underlying28 rfl Tryd.underlying30 rfl (by kernel_rfl) (by kernel_rfl) rfl ?_
    rw [← HPE.out]
    generalize (((((W2.setCell ⟨w.heap.size + 1, 0, none⟩ (.int .i64 sR.state)).setCell ⟨w.heap.size + 1, 1, none⟩ (.int .i64 sR.value)).setCell ⟨w.heap.size + 1, 2, none⟩ (.slice Ao n co)).setCell ⟨w.heap.size + 1, 3, none⟩ (.int .i64 (sR.steps : Int))).setCell ⟨w.heap.size + 1 + 1, 0, none⟩ (.int .i64 f1)).setCell ⟨w.heap.size + 1 + 1, 1, none⟩ (.int .i64 f2) = W6 at *
    exact ⟨_, rfl, row_le (World.ownsRow.drew (Hn.out ▸ hrow)) (Nat.le_trans (Nat.le_add_right _ 3) HZ.out), below_drew1 (HN2.out.below.trans (hend.2.2.mono (by omega)))⟩
end Go.Proofs.YtkiaffaieniebaaDoor
