/-
  What stands across a call of the closure that a run is handed; ends of functions with several results; the memory's row grows.
  Conditions: none.
-/
import Derived.Test.YtkiaffaieniebaaDoorRuF
import Derived.Test.YtkiaffaieniebaaDoorRuL
namespace Go.Proofs.YtkiaffaieniebaaDoor
open Go.RowKit

/-- All blocks of cells stand. -/
def KeepC (W W' : World) : Prop := W.heap.size ≤ W'.heap.size ∧ ∀ (g : Nat) (cs : Array Value) (t : TypeId) (f : Nat × Nat), W.heap[g]? = some (.cells cs t f) → W'.heap[g]? = some (.cells cs t f)
theorem KeepC.refl (W : World) : KeepC W W := ⟨Nat.le_refl _, fun _ _ _ _ h => h⟩
theorem KeepC.blk {W W' : World} (h : KeepC W W') {g : Nat} {t : TypeId} {cs : Array Value} (hb : Blk W g t cs) : Blk W' g t cs := h.2 _ _ _ _ hb
theorem KeepC.cell {W W' : World} (h : KeepC W W') {b o : Nat} {v : Value} (hc : W.cell? ⟨b, o, none⟩ = some v) : W'.cell? ⟨b, o, none⟩ = some v := by
  unfold World.cell? at *
  split at hc
  · rename_i c t f hh
    rw [h.2 _ _ _ _ hh]
    exact hc
  · cases hc
theorem KeepC.row {W W' : World} (h : KeepC W W') {base : Nat} {e : TypeId} {size n : Nat} {v : Value} {xs : List Value} (ho : W.ownsRow base e size v n xs) : W'.ownsRow base e size v n xs := by
  obtain ⟨h1, h2⟩ := ho
  refine ⟨h1, ?_⟩
  rcases h2 with h2 | ⟨g, cap, cur, a, b, c, d⟩
  · exact .inl h2
  · exact .inr ⟨g, cap, cur, a, b, h.2 _ _ _ _ c, d⟩
theorem KeepC.macs {W W' : World} (h : KeepC W W') {B : Nat} {v : Value} {ms : List Mac} (hm : MacsAt W B v ms) : MacsAt W' B v ms := by
  obtain ⟨A, c, e, h1, h2, h3⟩ := hm
  refine ⟨A, c, e, h1, h2, fun hl => ?_⟩
  obtain ⟨b, off, e1, e2, e3⟩ := h3 hl
  refine ⟨b, off, e1, e2, fun k m hk => ?_⟩
  obtain ⟨a0, a1, a2, a3, a4⟩ := e3 k m hk
  exact ⟨h.cell a0, h.cell a1, h.cell a2, h.cell a3, h.cell a4⟩
theorem KeepC.codes {W W' : World} (h : KeepC W W') {B : Nat} {v : Value} {xss : List (List Mac)} (hm : CodesAt W B v xss) : CodesAt W' B v xss := by
  obtain ⟨A, c, e, h1, h2, h3⟩ := hm
  refine ⟨A, c, e, h1, h2, fun hl => ?_⟩
  obtain ⟨b, off, e1, e2, e3⟩ := h3 hl
  refine ⟨b, off, e1, e2, fun k m hk => ?_⟩
  obtain ⟨r, hr, hi⟩ := e3 k m hk
  exact ⟨r, h.cell hr, h.macs hi⟩
theorem KeepC.ints {W W' : World} (h : KeepC W W') {B : Nat} {v : Value} {xs : List Int} (hm : IntsAt W B v xs) : IntsAt W' B v xs := by
  obtain ⟨A, c, e, h1, h2, h3⟩ := hm
  refine ⟨A, c, e, h1, h2, fun hl => ?_⟩
  obtain ⟨b, off, e1, e2, e3⟩ := h3 hl
  exact ⟨b, off, e1, e2, fun k m hk => h.cell (e3 k m hk)⟩
theorem MachIs.kept {W W' : World} {base g : Nat} {codes : List (List Mac)} {s : Mch} (hm : MachIs W base g codes s) (h : KeepC W W') : MachIs W' base g codes s := by
  obtain ⟨hg, cv, mv, lv, iv, ov, ps, h1, h2⟩ := hm
  exact ⟨hg, cv, mv, lv, iv, ov, ps, h.blk h1, h.codes h2.hcodes, h.row h2.hmem, h.row h2.hcalls, h.ints h2.hinput, h.row h2.hout, h2.apart, h2.frs.keep fun p _ l hp => h.blk hp⟩
/-- The memory's row has grown. -/
theorem MRest.grow {w w4 : World} {base g n H : Nat} {codes : List (List Mac)} {mem mem' : List Int} {calls : List Fr} {input out : List Int} {cv mv mv' lv iv ov : Value} {ps : List Nat} {ms : Array Value}
    (h : Blk w g 102 ms ∧ MRest w base codes mem calls input out cv mv lv iv ov ps) (hH : w.heap.size = H) (hn : n = mem'.length) {l : List Value} (hl : l = intV mem')
    (ap : Appended w base 3 1 mv n l H mv' w4) : Blk w4 g 102 ms ∧ MRest w4 base codes mem' calls input out cv mv' lv iv ov ps := by
  subst hn
  subst hl
  subst hH
  obtain ⟨h1, h2⟩ := h
  have hol := World.ownsRow.lt h2.hout
  refine ⟨ap.blk h2.hmem h1 (by decide), h2.hcodes.below ap.below (Nat.le_refl _), ap.own, ap.row h2.hcalls (own_apart2 h2.hcalls h2.hmem (by decide)), h2.hinput.below ap.below (Nat.le_refl _), ap.row h2.hout ?_, ?_, h2.frs.keep fun p _ l hp => ap.blk h2.hmem hp (by decide)⟩
  · intro k hk hk'
    exact h2.apart k hk' hk
  · intro k hk
    rcases ap.2.2.2 with e | e
    · rw [e] at hk
      exact h2.apart k hk
    · rw [e] at hk
      cases hk
      intro hk'
      exact absurd (hol _ hk').2 (Nat.lt_irrefl _)
theorem Blk.set4 {w : World} {g : Nat} {t : TypeId} {x0 x1 x2 x3 : Value} (h : Blk w g t #[x0, x1, x2, x3]) (a b c d : Value) : Blk ((((w.setCell ⟨g, 0, none⟩ a).setCell ⟨g, 1, none⟩ b).setCell ⟨g, 2, none⟩ c).setCell ⟨g, 3, none⟩ d) g t #[a, b, c, d] :=
  (((h.set_ 0 a).set_ 1 b).set_ 2 c).set_ 3 d
/-- The end of a function whose second and third results lie in cells. -/
theorem end_tmp_cells {P : Program} {fn : Func} {R : Ending → World → Prop} {a : Act} {w : World} {q p p' : Tmp} {ty t ty' t' : TypeId} {g g' : Nat} {cs cs' : Array Value} {d d' : TypeDesc} (h : fn.results = #[.tmp q, .cell p ty, .cell p' ty'])
    (hp : a.tmps.getD p undef = .pointer (some ⟨g, 0, none⟩)) (hp' : a.tmps.getD p' undef = .pointer (some ⟨g', 0, none⟩)) (hb : Blk w g t cs) (hb' : Blk w g' t' cs') (hu : P.underlying ty = some d) (hd : (match d with | .struct _ | .array _ _ => true | _ => false) = true)
    (hu' : P.underlying ty' = some d') (hd' : (match d' with | .struct _ | .array _ _ => true | _ => false) = true) (hi : (P.info? ty).map (·.size) = some cs.size) (hi' : (P.info? ty').map (·.size) = some cs'.size) (hdf : a.defers = [])
    (hR : R (.returned (.tuple #[a.tmps.getD q undef, .agg cs, .agg cs'])) w) : bodyPost P fn R .ret a w := by
  refine bodyPost_ret (v := .tuple #[a.tmps.getD q undef, .agg cs, .agg cs']) ?_ hdf hR
  have hp1 : a.tmps[p]?.getD undef = .pointer (some ⟨g, 0, none⟩) := by simpa using hp
  have hp2 : a.tmps[p']?.getD undef = .pointer (some ⟨g', 0, none⟩) := by simpa using hp'
  simp [results, h, hp1, hp2, asAddr, run_loadVar_row w g t ty cs (0, 0) d hb hu hd hi, run_loadVar_row w g' t' ty' cs' (0, 0) d' hb' hu' hd' hi']
/-- The end of a function whose two results lie in cells. -/
theorem end_cells {P : Program} {fn : Func} {R : Ending → World → Prop} {a : Act} {w : World} {p p' : Tmp} {ty t ty' t' : TypeId} {g g' : Nat} {cs cs' : Array Value} {d d' : TypeDesc} (h : fn.results = #[.cell p ty, .cell p' ty'])
    (hp : a.tmps.getD p undef = .pointer (some ⟨g, 0, none⟩)) (hp' : a.tmps.getD p' undef = .pointer (some ⟨g', 0, none⟩)) (hb : Blk w g t cs) (hb' : Blk w g' t' cs') (hu : P.underlying ty = some d) (hd : (match d with | .struct _ | .array _ _ => true | _ => false) = true)
    (hu' : P.underlying ty' = some d') (hd' : (match d' with | .struct _ | .array _ _ => true | _ => false) = true) (hi : (P.info? ty).map (·.size) = some cs.size) (hi' : (P.info? ty').map (·.size) = some cs'.size) (hdf : a.defers = [])
    (hR : R (.returned (.tuple #[.agg cs, .agg cs'])) w) : bodyPost P fn R .ret a w := by
  refine bodyPost_ret (v := .tuple #[.agg cs, .agg cs']) ?_ hdf hR
  have hp1 : a.tmps[p]?.getD undef = .pointer (some ⟨g, 0, none⟩) := by simpa using hp
  have hp2 : a.tmps[p']?.getD undef = .pointer (some ⟨g', 0, none⟩) := by simpa using hp'
  simp [results, h, hp1, hp2, asAddr, run_loadVar_row w g t ty cs (0, 0) d hb hu hd hi, run_loadVar_row w g' t' ty' cs' (0, 0) d' hb' hu' hd' hi']
/-- What a run comes to. -/
def RunPost (w : World) (b0 : Nat) (J : World → List (Nat × Nat) → Prop) (s : Mch) (f : Int × Int) (css : List (List Mac)) (tr : List (Nat × Nat)) (e : Ending) (w' : World) : Prop :=
  ∃ v ov, e = .returned (.tuple #[v, .agg #[.int .i64 s.state, .int .i64 s.value, ov, .int .i64 (s.steps : Int)], .agg #[.int .i64 f.1, .int .i64 f.2]]) ∧ CodesAt w' w'.heap.size v css ∧ w'.ownsRow w.heap.size 3 1 ov s.out.length (intV s.out) ∧ Below b0 w w' ∧ J w' tr ∧ ∀ g t cs, Blk w g t cs → Blk w' g t cs
/-- What stands while a run goes on. -/
structure RunNow (w : World) (b0 gi : Nat) (gv rv : Value) (J : World → List (Nat × Nat) → Prop) (tr : List (Nat × Nat)) (wx : World) : Prop where
  img : Blk wx gi 36 #[gv, rv]
  res : Blk wx (gi + 1) 28 #[.int .i64 0, .int .i64 0, .slice none 0 0, .int .i64 0]
  flt : Blk wx (gi + 1 + 1) 30 #[.int .i64 0, .int .i64 0]
  below : Below b0 w wx
  kept : J wx tr
  keep : ∀ g t cs, g < gi → Blk w g t cs → Blk wx g t cs
theorem RunNow.next {w : World} {b0 gi B : Nat} {gv rv : Value} {J : World → List (Nat × Nat) → Prop} {tr : List (Nat × Nat)} {wx wy : World} (h : RunNow w b0 gi gv rv J tr wx) (hb : Below B wx wy) (hB : gi + 3 ≤ B) (hb0 : b0 ≤ B) (hJ : ∀ W W' tr, J W tr → Below gi W W' → J W' tr) : RunNow w b0 gi gv rv J tr wy :=
  ⟨h.img.below hb (by omega), h.res.below hb (by omega), h.flt.below hb (by omega), h.below.trans (hb.mono hb0), hJ _ _ _ h.kept (hb.mono (by omega)), fun g t cs hg hk => (h.keep g t cs hg hk).below hb (by omega)⟩
theorem RunNow.met {w : World} {b0 gi : Nat} {gv rv : Value} {J : World → List (Nat × Nat) → Prop} {tr tr' : List (Nat × Nat)} {wx wy : World} (h : RunNow w b0 gi gv rv J tr wx) (hk : KeepC wx wy) (hb : Below b0 wx wy) (hJ : J wy tr') : RunNow w b0 gi gv rv J tr' wy :=
  ⟨hk.blk h.img, hk.blk h.res, hk.blk h.flt, h.below.trans hb, hJ, fun g t cs hg hc => hk.blk (h.keep g t cs hg hc)⟩
theorem RunNow.end_ {w : World} {b0 gi : Nat} {gv rv : Value} {J : World → List (Nat × Nat) → Prop} {tr : List (Nat × Nat)} {wx : World} (h : RunNow w b0 gi gv rv J tr wx) (a b c d x y : Value) :
    Blk ((((((wx.setCell ⟨gi + 1, 0, none⟩ a).setCell ⟨gi + 1, 1, none⟩ b).setCell ⟨gi + 1, 2, none⟩ c).setCell ⟨gi + 1, 3, none⟩ d).setCell ⟨gi + 1 + 1, 0, none⟩ x).setCell ⟨gi + 1 + 1, 1, none⟩ y) (gi + 1) 28 #[a, b, c, d] ∧
    Blk ((((((wx.setCell ⟨gi + 1, 0, none⟩ a).setCell ⟨gi + 1, 1, none⟩ b).setCell ⟨gi + 1, 2, none⟩ c).setCell ⟨gi + 1, 3, none⟩ d).setCell ⟨gi + 1 + 1, 0, none⟩ x).setCell ⟨gi + 1 + 1, 1, none⟩ y) (gi + 1 + 1) 30 #[x, y] ∧
    Below (gi + 1) wx ((((((wx.setCell ⟨gi + 1, 0, none⟩ a).setCell ⟨gi + 1, 1, none⟩ b).setCell ⟨gi + 1, 2, none⟩ c).setCell ⟨gi + 1, 3, none⟩ d).setCell ⟨gi + 1 + 1, 0, none⟩ x).setCell ⟨gi + 1 + 1, 1, none⟩ y) := by
  refine ⟨?_, ?_, ?_⟩
  · exact (((h.res.set4 a b c d).far (by simp) x).far (by simp) y)
  · exact Blk.set2 ((((h.flt.far (by simp) a).far (by simp) b).far (by simp) c).far (by simp) d) x y
  · exact ((((((Below.refl _ _).setCell (by simp) _).setCell (by simp) _).setCell (by simp) _).setCell (by simp) _).setCell (by simp) _).setCell (by simp) _
theorem run_fault {w wx wy : World} {b0 gi : Nat} {gv rv : Value} {J : World → List (Nat × Nat) → Prop} (h : RunNow w b0 gi gv rv J [] wx) (hb : Below gi wx wy) (hb0 : b0 ≤ gi) (hJ : ∀ W W' tr, J W tr → Below gi W W' → J W' tr) (hgi : w.heap.size = gi) (f : Int × Int) :
    RunPost w b0 J zeroM f [] [] (.returned (.tuple #[.slice none 0 0, .agg #[.int .i64 0, .int .i64 0, .slice none 0 0, .int .i64 0], .agg #[.int .i64 f.1, .int .i64 f.2]])) wy :=
  ⟨_, _, rfl, CodesAt.nil _ _, World.ownsRow_nil _ _ _ _, h.below.trans (hb.mono hb0), hJ _ _ _ h.kept hb, fun g t cs hc => (h.keep g t cs (hgi ▸ hc.lt) hc).below hb (hgi ▸ hc.lt)⟩
theorem run_bad {gs : List Glob} {rs : List Rout} {inp : List Int} {fuel : Int} {f : Int × Int} (h : runF gs rs inp fuel = f) (h0 : f.1 ≠ 0) : runO gs rs inp fuel = zeroM ∧ runL gs rs inp fuel = [] ∧ runT gs rs inp fuel = [] := by
  subst h
  unfold runO runL runT
  rw [if_pos h0, if_pos h0, if_pos h0]
  exact ⟨rfl, rfl, rfl⟩
theorem run_fine {gs : List Glob} {rs : List Rout} {inp : List Int} {fuel : Int} (h : runF gs rs inp fuel = (0, 0)) : runO gs rs inp fuel = (runS (imgCodes rs) (beginS gs inp) fuel.toNat).told ∧ runL gs rs inp fuel = imgCodes rs ∧ runT gs rs inp fuel = metS (imgCodes rs) (beginS gs inp) fuel.toNat := by
  unfold runO runL runT
  rw [h]
  exact ⟨rfl, rfl, rfl⟩
set_option maxRecDepth 100000 in
theorem zeroFr : Tryd.zeroCells98 = (frCells ⟨0, 0, List.replicate 120 0⟩).toArray := by kernel_rfl
/-- The new machine. -/
theorem mach_new {W : World} {codes : List (List Mac)} {inp : List Int} {cv iv : Value} (hc : CodesAt W W.heap.size cv codes) (hi : IntsAt W W.heap.size iv inp) :
    MachIs (((W.alloc (.cells Tryd.zeroCells98 98)).alloc (.cells #[.pointer (some ⟨W.heap.size, 0, none⟩)] 95)).alloc
      (.cells #[cv, .int .i64 0, .int .i64 0, .int .i64 0, .int .i64 0, .int .i64 0, .int .i64 0, .int .i64 0, .int .i64 0, .int .i64 0, .int .i64 0, .int .i64 0, .int .i64 0, .int .i64 0, .int .i64 0, .int .i64 0, .int .i64 0, .slice none 0 0,
        .slice (some ⟨W.heap.size + 1, 0, none⟩) 1 1, iv, .int .i64 0, .int .i64 0, .slice none 0 0, .int .i64 0, .bool false] 102)) W.heap.size (W.heap.size + 1 + 1) codes (startS [] inp) := by
  rw [zeroFr]
  have hf : Blk (W.alloc (.cells (frCells ⟨0, 0, List.replicate 120 0⟩).toArray 98)) W.heap.size 98 (frCells ⟨0, 0, List.replicate 120 0⟩).toArray := Blk.new _ _ _
  have hA : Below W.heap.size W (W.alloc (.cells (frCells ⟨0, 0, List.replicate 120 0⟩).toArray 98)) := (Below.refl _ _).alloc (Nat.le_refl _) _
  have hs : (W.alloc (.cells (frCells ⟨0, 0, List.replicate 120 0⟩).toArray 98)).heap.size = W.heap.size + 1 := by simp
  generalize W.alloc (.cells (frCells ⟨0, 0, List.replicate 120 0⟩).toArray 98) = W1 at *
  have ho := World.ownsRow_lit (base := W.heap.size) (size := 1) (e := 95) W1 #[.pointer (some ⟨W.heap.size, 0, none⟩)] 1 (by omega) (by decide) rfl
  rw [hs] at ho
  have hf2 := hf.alloc (.cells #[.pointer (some ⟨W.heap.size, 0, none⟩)] 95)
  have hB := hA.alloc (by omega) (.cells #[.pointer (some ⟨W.heap.size, 0, none⟩)] 95)
  have hs2 : (W1.alloc (.cells #[.pointer (some ⟨W.heap.size, 0, none⟩)] 95)).heap.size = W.heap.size + 1 + 1 := by simp [hs]
  generalize W1.alloc (.cells #[.pointer (some ⟨W.heap.size, 0, none⟩)] 95) = W2 at *
  refine ⟨by omega, cv, .slice none 0 0, .slice (some ⟨W.heap.size + 1, 0, none⟩) 1 1, iv, .slice none 0 0, [W.heap.size], ?_, ?_⟩
  · rw [← hs2]
    exact Blk.new W2 _ _
  · have hC := hB.alloc (by omega) (.cells #[cv, .int .i64 0, .int .i64 0, .int .i64 0, .int .i64 0, .int .i64 0, .int .i64 0, .int .i64 0, .int .i64 0, .int .i64 0, .int .i64 0, .int .i64 0, .int .i64 0, .int .i64 0, .int .i64 0, .int .i64 0, .int .i64 0, .slice none 0 0,
        .slice (some ⟨W.heap.size + 1, 0, none⟩) 1 1, iv, .int .i64 0, .int .i64 0, .slice none 0 0, .int .i64 0, .bool false] 102)
    exact ⟨hc.below hC (Nat.le_refl _), World.ownsRow_nil _ _ _ _, World.ownsRow.alloc ho _, hi.below hC (Nat.le_refl _), World.ownsRow_nil _ _ _ _, fun k hk => by simp [Value.ownBlock] at hk, Nat.le_refl _, by simp, hf2.alloc _, trivial⟩
theorem ints_src {w : World} {B n c : Nat} {A : Option Addr} {xs : List Int} (h : IntsAt w B (.slice A n c) xs) : 0 < n → ∃ ad, A = some ad ∧ ∀ j u, (intV xs)[j]? = some u → w.cell? (ad.add j) = some u := by
  intro hn
  obtain ⟨A', c', e, h1, h2, h3⟩ := h
  cases e
  obtain ⟨b, off, e1, _, e3⟩ := h3 hn
  subst e1
  refine ⟨_, rfl, fun j u hj => ?_⟩
  rw [intV_at] at hj
  cases hx : xs[j]? with
  | none => rw [hx] at hj; cases hj
  | some x =>
    rw [hx] at hj
    simp only [Option.map_some, Option.some.injEq] at hj
    subst hj
    have := e3 j x hx
    have e : (⟨b, off, none⟩ : Addr).add j = ⟨b, off + j, none⟩ := by
      unfold Addr.add
      split <;> simp_all
    rw [e]
    exact this
theorem intV_app (a b : List Int) : intV a ++ intV b = intV (a ++ b) := by unfold intV; rw [List.map_append]
theorem intV_rep (m : Nat) : List.replicate m (Value.int .i64 0) = intV (List.replicate m 0) := by unfold intV; rw [List.map_replicate]
/-- Instructions between two blocks' numbers. -/
def MacsHi (w : World) (lo B : Nat) (v : Value) (ms : List Mac) : Prop :=
  ∃ (A : Option Addr) (c : Nat), v = .slice A ms.length c ∧ ms.length ≤ c ∧ ms.length ≤ 9223372036854775807 ∧
    (0 < ms.length → ∃ b off, A = some ⟨b, off, none⟩ ∧ lo ≤ b ∧ b < B ∧ ∀ (k : Nat) (m : Mac), ms[k]? = some m → MacAt w b (off + k * 5) m)
def CodesHi (w : World) (lo B : Nat) (v : Value) (xss : List (List Mac)) : Prop :=
  ∃ (A : Option Addr) (c : Nat), v = .slice A xss.length c ∧ xss.length ≤ c ∧ c ≤ 9223372036854775807 ∧
    (0 < xss.length → ∃ b off, A = some ⟨b, off, none⟩ ∧ lo ≤ b ∧ b < B ∧ ∀ (k : Nat) (xs : List Mac), xss[k]? = some xs → ∃ r, w.cell? ⟨b, off + k, none⟩ = some r ∧ MacsHi w lo B r xs)
section
variable {w w' : World} {lo B : Nat} {v : Value}
theorem MacsHi.turn {ms : List Mac} (h : MacsHi w lo B v ms) (hc : ∀ b o u, lo ≤ b → b < B → w.cell? ⟨b, o, none⟩ = some u → w'.cell? ⟨b, o, none⟩ = some u) : MacsHi w' lo B v ms := by
  obtain ⟨A, c, e, h1, h2, h3⟩ := h
  refine ⟨A, c, e, h1, h2, fun hl => ?_⟩
  obtain ⟨b, off, e1, e2, e3, e4⟩ := h3 hl
  refine ⟨b, off, e1, e2, e3, fun k m hk => ?_⟩
  obtain ⟨a0, a1, a2, a3, a4⟩ := e4 k m hk
  exact ⟨hc _ _ _ e2 e3 a0, hc _ _ _ e2 e3 a1, hc _ _ _ e2 e3 a2, hc _ _ _ e2 e3 a3, hc _ _ _ e2 e3 a4⟩
theorem CodesHi.turn {xss : List (List Mac)} (h : CodesHi w lo B v xss) (hc : ∀ b o u, lo ≤ b → b < B → w.cell? ⟨b, o, none⟩ = some u → w'.cell? ⟨b, o, none⟩ = some u) : CodesHi w' lo B v xss := by
  obtain ⟨A, c, e, h1, h2, h3⟩ := h
  refine ⟨A, c, e, h1, h2, fun hl => ?_⟩
  obtain ⟨b, off, e1, e2, e3, e4⟩ := h3 hl
  refine ⟨b, off, e1, e2, e3, fun k m hk => ?_⟩
  obtain ⟨r, hr, hi⟩ := e4 k m hk
  exact ⟨r, hc _ _ _ e2 e3 hr, hi.turn hc⟩
theorem CodesHi.below {xss : List (List Mac)} (h : CodesHi w lo B v xss) (hb : Below B w w') : CodesHi w' lo B v xss := h.turn fun _ _ _ _ h2 hc => (bcell hb h2).trans hc
theorem CodesHi.kept {xss : List (List Mac)} (h : CodesHi w lo B v xss) (hk : KeepC w w') : CodesHi w' lo B v xss := h.turn fun _ _ _ _ _ hc => hk.cell hc
theorem CodesHi.low {xss : List (List Mac)} (h : CodesHi w lo B v xss) {b o : Nat} (hb : b < lo) (u : Value) : CodesHi (w.setCell ⟨b, o, none⟩ u) lo B v xss :=
  h.turn fun b' o' u' h1 _ hc => (World.cell?_setCell_far w ⟨b, o, none⟩ ⟨b', o', none⟩ u (by show b ≠ b'; omega)).trans hc
theorem MacsHi.to {ms : List Mac} (h : MacsHi w lo B v ms) : MacsAt w B v ms := by
  obtain ⟨A, c, e, h1, h2, h3⟩ := h
  refine ⟨A, c, e, h1, h2, fun hl => ?_⟩
  obtain ⟨b, off, e1, _, e3, e4⟩ := h3 hl
  exact ⟨b, off, e1, e3, e4⟩
theorem CodesHi.to {xss : List (List Mac)} (h : CodesHi w lo B v xss) : CodesAt w B v xss := by
  obtain ⟨A, c, e, h1, h2, h3⟩ := h
  refine ⟨A, c, e, h1, h2, fun hl => ?_⟩
  obtain ⟨b, off, e1, _, e3, e4⟩ := h3 hl
  refine ⟨b, off, e1, e3, fun k m hk => ?_⟩
  obtain ⟨r, hr, hi⟩ := e4 k m hk
  exact ⟨r, hr, hi.to⟩
theorem OwnMacs.hi {ms : List Mac} (h : OwnMacs w lo v ms) : MacsHi w lo w.heap.size v ms := by
  obtain ⟨A, c, e, h1, h2, h3⟩ := h.macs
  refine ⟨A, c, e, h1, h2, fun hl => ?_⟩
  obtain ⟨b, off, e1, e3, e4⟩ := h3 hl
  subst e1
  refine ⟨b, off, rfl, ?_, e3, e4⟩
  subst e
  rcases h.2 with ⟨h', _⟩ | ⟨g', cap', cur', h', hb, _⟩
  · simp at h'
  · simp only [Value.slice.injEq, Option.some.injEq, Addr.mk.injEq, and_true, true_and] at h'
    obtain ⟨⟨rfl, _⟩, _⟩ := h'
    exact hb
theorem CodesOwn.hi {xss : List (List Mac)} (h : CodesOwn w lo v xss) : CodesHi w lo w.heap.size v xss := by
  obtain ⟨rs, h1, h2, h3⟩ := h
  rcases h2.2 with ⟨rfl, hn⟩ | ⟨g, cap, cur, rfl, hlo, hgg, hnc, hcm, _, _⟩
  · have : xss = [] := List.eq_nil_of_length_eq_zero (by omega)
    subst this
    exact ⟨none, 0, rfl, by simp, by omega, fun h => by simp at h⟩
  · refine ⟨some ⟨g, 0, none⟩, cap, by rw [h1], by omega, by unfold maxLen at hcm; omega, fun _ => ⟨g, 0, rfl, hlo, (World.ownsRow.lt h2 g rfl).2, fun k xs hk => ?_⟩⟩
    have hkl : k < rs.length := by have := (List.getElem?_eq_some_iff.1 hk).1; omega
    have hc := World.ownsRow.cells h2 (g := g) rfl k rs[k] (List.getElem?_eq_getElem hkl)
    have e : (⟨g, 0, none⟩ : Addr).add k = ⟨g, 0 + k, none⟩ := by
      unfold Addr.add
      split <;> simp_all
    rw [e] at hc
    exact ⟨_, hc, (h3 k _ xs (List.getElem?_eq_getElem hkl) hk).hi⟩
end
theorem CodesAt.hiForm {w : World} {lo B : Nat} {v : Value} {xss : List (List Mac)} (h : CodesHi w lo B v xss) : ∃ A c, v = .slice A xss.length c := by
  obtain ⟨A, c, e, _⟩ := h
  exact ⟨A, c, e⟩
theorem row_ints {w : World} {base n : Nat} {v : Value} {xs : List Int} (h : w.ownsRow base 3 1 v n (intV xs)) (hn : n = xs.length) : IntsAt w w.heap.size v xs := by
  subst hn
  rcases h.2 with ⟨rfl, h0⟩ | ⟨g, cap, cur, rfl, _, _, h1, h2, _⟩
  · have : xs = [] := List.eq_nil_of_length_eq_zero h0
    subst this
    exact ⟨none, 0, rfl, by simp, by omega, fun h => by simp at h⟩
  · refine ⟨_, cap, rfl, h1, by unfold maxLen at h2; omega, fun _ => ⟨g, 0, rfl, (World.ownsRow.lt h g rfl).2, fun k x hk => ?_⟩⟩
    have hlt := (List.getElem?_eq_some_iff.1 hk).1
    rw [Nat.zero_add, World.ownsRow.cellAt h k (by omega), intV_at, hk]
    rfl
theorem row_le {w : World} {base base' n size : Nat} {e : TypeId} {v : Value} {xs : List Value} (h : w.ownsRow base e size v n xs) (hb : base' ≤ base) : w.ownsRow base' e size v n xs := by
  obtain ⟨h1, h2⟩ := h
  refine ⟨h1, ?_⟩
  rcases h2 with h2 | ⟨g, cap, cur, a, b, c⟩
  · exact .inl h2
  · exact .inr ⟨g, cap, cur, a, by omega, c⟩
/-- How a run that was not refused ends. -/
theorem run_done {w wx : World} {b0 gi base lo n rb : Nat} {gv rv cv ov : Value} {J : World → List (Nat × Nat) → Prop} {tr : List (Nat × Nat)} {css : List (List Mac)} {s : Mch} (h : RunNow w b0 gi gv rv J tr wx) (hC : CodesHi wx lo base cv css) (hlo : gi + 3 ≤ lo) (hbs : base ≤ wx.heap.size)
    (ho : wx.ownsRow rb 3 1 ov n (intV s.out)) (hn : n = s.out.length) (hrb : w.heap.size ≤ rb) (hgi : w.heap.size = gi) (hb0 : b0 ≤ gi) (hJ : ∀ W W' tr, J W tr → Below gi W W' → J W' tr) :
    RunPost w b0 J s (0, 0) css tr (.returned (.tuple #[cv, .agg #[.int .i64 s.state, .int .i64 s.value, ov, .int .i64 (s.steps : Int)], .agg #[.int .i64 0, .int .i64 0]]))
      ((((((wx.setCell ⟨gi + 1, 0, none⟩ (.int .i64 s.state)).setCell ⟨gi + 1, 1, none⟩ (.int .i64 s.value)).setCell ⟨gi + 1, 2, none⟩ ov).setCell ⟨gi + 1, 3, none⟩ (.int .i64 (s.steps : Int))).setCell ⟨gi + 1 + 1, 0, none⟩ (.int .i64 0)).setCell ⟨gi + 1 + 1, 1, none⟩ (.int .i64 0)).drew := by
  have hend := (h.end_ (.int .i64 s.state) (.int .i64 s.value) ov (.int .i64 (s.steps : Int)) (.int .i64 0) (.int .i64 0)).2.2
  have h1 := (((((hC.low (o := 0) (show gi + 1 < lo by omega) (.int .i64 s.state)).low (o := 1) (show gi + 1 < lo by omega) (.int .i64 s.value)).low (o := 2) (show gi + 1 < lo by omega) ov).low (o := 3) (show gi + 1 < lo by omega) (.int .i64 (s.steps : Int))).low (o := 0) (show gi + 1 + 1 < lo by omega) (.int .i64 0)).low (o := 1) (show gi + 1 + 1 < lo by omega) (.int .i64 0)
  have r := h.res
  have f := h.flt
  have o1 := row_far (o := 0) ho r (by decide) (.int .i64 s.state)
  have r1 := r.set_ 0 (.int .i64 s.state)
  have o2 := row_far (o := 1) o1 r1 (by decide) (.int .i64 s.value)
  have r2 := r1.set_ 1 (.int .i64 s.value)
  have o3 := row_far (o := 2) o2 r2 (by decide) ov
  have r3 := r2.set_ 2 ov
  have o4 := row_far (o := 3) o3 r3 (by decide) (.int .i64 (s.steps : Int))
  have f4 := (((f.far (p := ⟨gi + 1, 0, none⟩) (by simp) (.int .i64 s.state)).far (p := ⟨gi + 1, 1, none⟩) (by simp) (.int .i64 s.value)).far (p := ⟨gi + 1, 2, none⟩) (by simp) ov).far (p := ⟨gi + 1, 3, none⟩) (by simp) (.int .i64 (s.steps : Int))
  have o5 := row_far (o := 0) o4 f4 (by decide) (.int .i64 0)
  have f5 := f4.set_ 0 (.int .i64 0)
  have o6 := row_far (o := 1) o5 f5 (by decide) (.int .i64 0)
  clear o1 o2 o3 o4 o5 r1 r2 r3 f4 f5
  generalize (((((wx.setCell ⟨gi + 1, 0, none⟩ (.int .i64 s.state)).setCell ⟨gi + 1, 1, none⟩ (.int .i64 s.value)).setCell ⟨gi + 1, 2, none⟩ ov).setCell ⟨gi + 1, 3, none⟩ (.int .i64 (s.steps : Int))).setCell ⟨gi + 1 + 1, 0, none⟩ (.int .i64 0)).setCell ⟨gi + 1 + 1, 1, none⟩ (.int .i64 0) = W at *
  have hd : Below W.heap.size W W.drew := below_drew1 (Below.refl _ _)
  have hB := below_drew1 (hend.mono (show gi ≤ gi + 1 by omega))
  have hz : base ≤ W.heap.size := Nat.le_trans hbs hend.size
  exact ⟨cv, ov, rfl, (h1.to.more hz).below hd (Nat.le_refl _), (hn ▸ row_le (base' := w.heap.size) o6 hrb : W.ownsRow w.heap.size 3 1 ov s.out.length (intV s.out)), h.below.trans (hB.mono hb0), hJ _ _ _ h.kept hB, fun g t cs hc => (h.keep g t cs (hgi ▸ hc.lt) hc).below hB (hgi ▸ hc.lt)⟩
/-- What stands after so many steps that k are left. -/
def goRel (css : List (List Mac)) (s0 : Mch) (fn : Nat) (w : World) (b0 gi : Nat) (gv rv : Value) (J : World → List (Nat × Nat) → Prop) (base lo hi : Nat) (cv : Value) (k : Nat) (wr : World) : Prop :=
  ∃ j, j + k = fn ∧ Hid (MachIs wr base (base + 1 + 1) css (runS css s0 j)) ∧ Hid ((runS css s0 j).steps = j) ∧ Hid (RunNow w b0 gi gv rv J (metS css s0 j) wr) ∧ Hid (CodesHi wr lo hi cv css)
/-- A row of numbers stands where the results are laid down. -/
theorem RunNow.row {w : World} {b0 gi rb n size : Nat} {gv rv v : Value} {l : List Value} {J : World → List (Nat × Nat) → Prop} {tr : List (Nat × Nat)} {wx : World} (h : RunNow w b0 gi gv rv J tr wx) {e : TypeId} (ho : wx.ownsRow rb e size v n l) (h1 : e ≠ 28) (h2 : e ≠ 30) (a b c d x y : Value) :
    ((((((wx.setCell ⟨gi + 1, 0, none⟩ a).setCell ⟨gi + 1, 1, none⟩ b).setCell ⟨gi + 1, 2, none⟩ c).setCell ⟨gi + 1, 3, none⟩ d).setCell ⟨gi + 1 + 1, 0, none⟩ x).setCell ⟨gi + 1 + 1, 1, none⟩ y).ownsRow rb e size v n l := by
  have r := h.res
  have f := h.flt
  have o1 := row_far (o := 0) ho r h1 a
  have r1 := r.set_ 0 a
  have o2 := row_far (o := 1) o1 r1 h1 b
  have r2 := r1.set_ 1 b
  have o3 := row_far (o := 2) o2 r2 h1 c
  have r3 := r2.set_ 2 c
  have o4 := row_far (o := 3) o3 r3 h1 d
  have f4 := (((f.far (p := ⟨gi + 1, 0, none⟩) (by simp) a).far (p := ⟨gi + 1, 1, none⟩) (by simp) b).far (p := ⟨gi + 1, 2, none⟩) (by simp) c).far (p := ⟨gi + 1, 3, none⟩) (by simp) d
  have o5 := row_far (o := 0) o4 f4 h2 x
  have f5 := f4.set_ 0 x
  exact row_far (o := 1) o5 f5 h2 y
end Go.Proofs.YtkiaffaieniebaaDoor
