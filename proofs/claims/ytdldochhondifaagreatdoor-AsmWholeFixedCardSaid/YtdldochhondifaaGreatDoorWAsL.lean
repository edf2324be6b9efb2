/-
  Texts of the claim AsmWholeFixed (AsG AsJ AsK AsI AsL): what each proves stands at its theorems.
  Conditions: as the theorems say.
-/
import Derived.Conc.MuLone
import Derived.Deep.DeepCutAuto
import Derived.Test.YtdldochhondifaaGreatDoorWAsF
import Derived.Test.YtdldochhondifaaGreatDoorWMcZ
import Derived.Test.YtdldochhondifaaGreatDoorWAsD
import Derived.Test.YtdldochhondifaaGreatDoorWIng
import Derived.Test.YtdldochhondifaaGreatDoorWKtC
import Derived.Test.YtdldochhondifaaGreatDoorWMacM
namespace Go.Proofs.YtdldochhondifaaGreatDoor
open Go.RowKit
attribute [local go_sem] Oper.semAt_some

/-- The slice value v reads as the texts ss, below block B. -/
def StrsAt (w : World) (B : Nat) (v : Value) (ss : List (List UInt8)) : Prop :=
  ∃ (A : Option Addr) (c : Nat), v = .slice A ss.length c ∧ ss.length ≤ c ∧ c ≤ 9223372036854775807 ∧
    (0 < ss.length → ∃ b off, A = some ⟨b, off, none⟩ ∧ b < B ∧ ∀ (k : Nat) (x : List UInt8), ss[k]? = some x → w.cell? ⟨b, off + k, none⟩ = some (.string (mkS x)))
theorem StrsAt.nil (w : World) (B : Nat) : StrsAt w B (.slice none 0 0) [] := ⟨none, 0, rfl, by simp, by omega, fun h => by simp at h⟩
theorem StrsAt.below {W w1 : World} {B B' : Nat} {v : Value} {ss : List (List UInt8)} (h : StrsAt W B v ss) (hb : Below B' W w1) (hB : B ≤ B') : StrsAt w1 B v ss := by
  obtain ⟨A, c, e, h1, h2, h3⟩ := h
  refine ⟨A, c, e, h1, h2, fun hl => ?_⟩
  obtain ⟨b, off, e1, e2, e3⟩ := h3 hl
  exact ⟨b, off, e1, e2, fun k m hk => (bcell hb (Nat.lt_of_lt_of_le e2 hB)).trans (e3 k m hk)⟩
theorem StrsAt.more {w : World} {B B' : Nat} {v : Value} {ss : List (List UInt8)} (h : StrsAt w B v ss) (hB : B ≤ B') : StrsAt w B' v ss := by
  obtain ⟨A, c, e, h1, h2, h3⟩ := h
  refine ⟨A, c, e, h1, h2, fun hl => ?_⟩
  obtain ⟨b, off, e1, e2, e3⟩ := h3 hl
  exact ⟨b, off, e1, by omega, e3⟩
/-- How a routine is named. -/
def rtN (nl : List (List UInt8)) (n : Int) : List UInt8 := if nl.length = 0 then Lib.itoa n else nl.getD n.toNat []
end Go.Proofs.YtdldochhondifaaGreatDoor
namespace Go.Proofs.YtdldochhondifaaGreatDoor
open Go.ChangeShapes Go.WideShapes Go.ChangeAt Go.RowKit Go.Deep

theorem firstBad_zeroA {bad : Nat → Int} {n : Nat} (h : (firstBad bad n).1 = 0) : ∀ j, j < n → bad j = 0 := by
  intro j hj
  unfold firstBad at h
  cases hf : (List.range n).find? (fun i => bad i != 0) with
  | none =>
    rw [List.find?_eq_none] at hf
    simpa using hf j (by simpa using hj)
  | some i =>
    rw [hf] at h
    have := List.find?_some hf
    simp only at h
    simp [h] at this
theorem machF_zeroA {gs : List Glob} {rs : List Rout} (h : (machF gs rs).1 = 0) : (globF gs).1 = 0 ∧ 0 < rs.length ∧ rs.length ≤ 40 ∧ ∀ j, j < rs.length → rBadAt gs rs j = 0 := by
  unfold machF at h
  split at h
  · rename_i h1
    exact absurd h h1
  split at h
  · cases h
  split at h
  · cases h
  · rename_i h1 h2 h3
    exact ⟨by simpa using h1, by omega, by omega, firstBad_zeroA h⟩
def GIn (gs : List Glob) : Prop := ∀ g ∈ gs, ∀ x ∈ g.init, I64 x
def globHead (g : Glob) : List UInt8 := [103, 108, 111, 98, 97, 108, 32] ++ g.name.data.toList ++ [32] ++ Lib.itoa g.size
def initTo (g : Glob) (k : Nat) : List UInt8 := ((g.init.take k).map fun n => 32 :: Lib.itoa n).flatten
def globL (g : Glob) : List UInt8 := globHead g ++ initTo g g.init.length ++ [10]
def namesL (rs : List Rout) : List (List UInt8) := rs.map fun r => r.name.data.toList
def routHead (r : Rout) : List UInt8 := [114, 111, 117, 116, 105, 110, 101, 32] ++ r.name.data.toList ++ [10]
def routL (rs : List Rout) (r : Rout) : List UInt8 := routHead r ++ textL (rtN (namesL rs)) (readL r.code).2
def globsTo (gs : List Glob) (k : Nat) : List UInt8 := ((gs.take k).map globL).flatten
def routsTo (rs : List Rout) (k : Nat) : List UInt8 := ((rs.take k).map (routL rs)).flatten
def apartL (gs : List Glob) (rs : List Rout) : List UInt8 := globsTo gs gs.length ++ routsTo rs rs.length
def apartF (gs : List Glob) (rs : List Rout) : List UInt8 := if (machF gs rs).1 = 0 then apartL gs rs else []
theorem initTo_zero (g : Glob) : initTo g 0 = [] := rfl
theorem initTo_succ {g : Glob} {k : Nat} {n : Int} (h : g.init[k]? = some n) : initTo g (k + 1) = initTo g k ++ (32 :: Lib.itoa n) := by
  unfold initTo
  rw [List.take_add_one, h]
  simp
theorem globsTo_succ {gs : List Glob} {k : Nat} {g : Glob} (h : gs[k]? = some g) : globsTo gs (k + 1) = globsTo gs k ++ globL g := by
  unfold globsTo
  rw [List.take_add_one, h]
  simp
theorem routsTo_succ {rs : List Rout} {k : Nat} {r : Rout} (h : rs[k]? = some r) : routsTo rs (k + 1) = routsTo rs k ++ routL rs r := by
  unfold routsTo
  rw [List.take_add_one, h]
  simp
theorem initTo_len {g : Glob} (h : ∀ x ∈ g.init, I64 x) : ∀ k, (initTo g k).length ≤ 21 * k
  | 0 => by simp [initTo_zero]
  | k + 1 => by
    have ih := initTo_len h k
    cases hk : g.init[k]? with
    | none =>
      have e : initTo g (k + 1) = initTo g k := by
        unfold initTo
        rw [List.take_add_one, hk]
        simp
      rw [e]
      omega
    | some n =>
      rw [initTo_succ hk, List.length_append, List.length_cons]
      have := itoa_len (h n (List.mem_of_getElem? hk))
      omega
/-- What an image that may run is. -/
structure ImgOk (gs : List Glob) (rs : List Rout) : Prop where
  gl : gs.length ≤ 10
  gname : ∀ g ∈ gs, g.name.size ≤ 12 ∧ I64 g.size ∧ g.init.length ≤ 200 ∧ ∀ x ∈ g.init, I64 x
  r0 : 0 < rs.length
  rl : rs.length ≤ 40
  rname : ∀ r ∈ rs, r.name.size ≤ 12
  code : ∀ r ∈ rs, (readL r.code).1 = (0, 0) ∧ (checkS (readL r.code).2).1 = 0 ∧ (∀ m ∈ (readL r.code).2, m.ok) ∧ ∀ m ∈ (readL r.code).2, m.op = 44 → m.n < (rs.length : Int)
theorem name_small {s : ByteArray} (h : nameS s = true) : s.size ≤ 12 := by
  unfold nameS at h
  rw [Bool.and_eq_true, decide_eq_true_eq] at h
  omega
theorem img_ok {gs : List Glob} {rs : List Rout} (h : (machF gs rs).1 = 0) (hgo : GOk gs) (hgi : GIn gs) (hro : ROk rs) : ImgOk gs rs := by
  obtain ⟨hg, h0, hl, hb⟩ := machF_zeroA h
  have hgl : gs.length ≤ 10 := by
    rcases Nat.lt_or_ge 10 gs.length with h' | h'
    · unfold globF at hg
      rw [if_pos h'] at hg
      cases hg
    · exact h'
  have hgb : ∀ j, j < gs.length → gBadAt gs j = 0 := by
    unfold globF at hg
    rw [if_neg (by omega)] at hg
    exact firstBad_zeroA hg
  refine ⟨hgl, fun g hm => ?_, h0, hl, fun r hm => ?_, fun r hm => ?_⟩
  · obtain ⟨j, hj⟩ := List.mem_iff_getElem?.1 hm
    have h1 := hgb j (List.getElem?_eq_some_iff.1 hj).1
    unfold gBadAt at h1
    rw [hj] at h1
    simp only [gBad] at h1
    split at h1
    · cases h1
    · rename_i hn
      split at h1
      · cases h1
      split at h1
      · cases h1
      rename_i hs
      split at h1
      · cases h1
      rename_i hi
      exact ⟨name_small (by simpa using hn), (hgo g hm).2, by omega, hgi g hm⟩
  · obtain ⟨j, hj⟩ := List.mem_iff_getElem?.1 hm
    have h1 := hb j (List.getElem?_eq_some_iff.1 hj).1
    unfold rBadAt at h1
    rw [hj] at h1
    simp only [rBad] at h1
    split at h1
    · cases h1
    · rename_i hn
      unfold rNameBad at hn
      simp only [Bool.or_eq_true, not_or, Bool.not_eq_true', Bool.not_eq_true] at hn
      exact name_small (by simpa using hn.1)
  · obtain ⟨j, hj⟩ := List.mem_iff_getElem?.1 hm
    have h1 := hb j (List.getElem?_eq_some_iff.1 hj).1
    unfold rBadAt at h1
    rw [hj] at h1
    simp only [rBad] at h1
    split at h1
    · cases h1
    split at h1
    · cases h1
    split at h1
    · cases h1
    rename_i hc
    split at h1
    · cases h1
    rename_i hf
    have hz : (readL r.code).1.1 = 0 := by simpa using hc
    obtain ⟨k1, k2, _, k4, _⟩ := readL_back (hro r hm).2 hz
    refine ⟨k1, k2, fun m hm' => fine_ok (k4 m hm'), fun m hm' hop => ?_⟩
    have hf' : ¬ ((readL r.code).2.any (farB rs.length)) = true := hf
    rw [List.any_eq_true] at hf'
    have : ¬ farB rs.length m = true := fun h' => hf' ⟨m, hm', h'⟩
    unfold farB at this
    rw [hop] at this
    simp at this
    exact this
theorem call_op {op : Int} (h : isOp op = true) (hk : shK op = 4) : op = 44 := by
  obtain ⟨h1, h2⟩ := (isOp_iff op).1 h
  by_cases hA : 5 ≤ op ∧ op ≤ 18
  · rw [(sh_two op hA).2.2.2] at hk; cases hk
  by_cases hB : 19 ≤ op ∧ op ≤ 32
  · rw [(sh_num op hB).2.2.2] at hk; cases hk
  by_cases hC : 40 ≤ op ∧ op ≤ 43
  · rw [(sh_jmp op hC).2.2.2] at hk; cases hk
  obtain rfl | rfl | rfl | rfl | rfl | rfl | rfl | rfl | rfl | rfl | rfl | rfl | rfl | rfl | rfl :
    op = 1 ∨ op = 2 ∨ op = 3 ∨ op = 4 ∨ op = 33 ∨ op = 34 ∨ op = 35 ∨ op = 36 ∨ op = 37 ∨ op = 38 ∨ op = 39 ∨ op = 44 ∨ op = 45 ∨ op = 46 ∨ op = 47 := by omega
  all_goals first | rfl | (exfalso; revert hk; decide)
end Go.Proofs.YtdldochhondifaaGreatDoor
namespace Go.Proofs.YtdldochhondifaaGreatDoor
open Go.RowKit
attribute [local go_sem] Oper.semAt_some

theorem mkS_of (s : ByteArray) : mkS s.data.toList = s := by
  apply ByteArray.ext
  simp [mkS]
theorem kept_below {e : TypeId} {b : Option Nat} {w w' : World} (h : Below w.heap.size w w') : Lib.OthersKept e b w w' := by
  intro k o hk _ _
  have hlt : k < w.heap.size := (Array.getElem?_eq_some_iff.1 hk).1
  exact (h.block k hlt).trans hk
theorem bld_lt {B b : Nat} {l : List UInt8} {w : World} (h : BldF B b l w) : B ≤ b ∧ b < w.heap.size := by
  rcases h with h | h <;> exact ⟨h.1, h.lt⟩
theorem write_all (B b : Nat) (l s : List UInt8) (w : World) (h : BldF B b l w) (hl : l.length + s.length ≤ 140737488355328) (hB : B ≤ w.heap.size) :
    Calls Tryz.prog 45 #[.pointer (some ⟨b, 0, none⟩), .string (mkS s)] w fun e w' => e = .returned (.tuple #[.int .i64 (s.length : Int), .nilIface]) ∧ BldF B b (l ++ s) w' ∧ Below B w w' ∧ Lib.OthersKept 5 (some b) w w' := by
  refine (Any.Builder_WriteString_k { Tryz.lays156 with } Tryz.Builder_Extra_156 B b (Lib.byteCells l) (mkS s) w h (by rw [Lib.byteCells_length, mkS_size]; exact hl) hB).mono ?_
  rintro e w' ⟨rfl, h1, h2, h3⟩
  refine ⟨by rw [mkS_size], .inr ?_, h2, h3⟩
  have e1 : Lib.strCells (mkS s) = Lib.byteCells s := Lib.strCells_toArray s
  have e2 : Lib.byteCells (l ++ s) = Lib.byteCells l ++ Lib.byteCells s := by unfold Lib.byteCells; rw [List.map_append]
  rw [e2, ← e1]
  exact h1
/-- The builder holds l, or l' once operation ks is done; all else stands. -/
def WrC (W0 : World) (B b : Nat) (l l' : List UInt8) (ks : Nat) (L : Array Bool) (w : World) : Prop :=
  BldF B b (if L.getD ks false = true then l' else l) w ∧ Below B W0 w ∧ Lib.OthersKept 5 (some b) W0 w
section
variable {W0 w w' : World} {B b : Nat} {l l' : List UInt8} {ks : Nat} {L : Array Bool}
theorem WrC.start {n : Nat} (h : BldF B b l W0) : WrC W0 B b l l' ks (Array.replicate n false) W0.drew := by
  refine ⟨?_, ⟨rfl, rfl, rfl, Nat.le_refl _, fun _ _ => rfl⟩, Lib.OthersKept.drew (Lib.OthersKept.refl _ _ _)⟩
  rw [if_neg (by simp [Array.getD])]
  exact h
theorem WrC.keep (h : WrC W0 B b l l' ks L w) (k : Nat) (hk : k ≠ ks) (hb : Below w.heap.size w w') : WrC W0 B b l l' ks (L.setIfInBounds k true) w' := by
  have hl := bld_lt h.1
  refine ⟨?_, h.2.1.trans (hb.mono (by omega)), h.2.2.trans (kept_below hb)⟩
  rw [getD_set_ne L k ks hk]
  exact bld_below h.1 hb
theorem WrC.stay (h : WrC W0 B b l l' ks L w) (k : Nat) (hk : k ≠ ks) : WrC W0 B b l l' ks (L.setIfInBounds k true) w := h.keep k hk (Below.refl _ _)
theorem WrC.blk (h : WrC W0 B b l l' ks L w) {g : Nat} {t : TypeId} {cs : Array Value} (hb : Blk W0 g t cs) (hg : g ≠ b) (ht : t ≠ 5) : Blk w g t cs :=
  h.2.2 g _ hb (by intro e; cases e; exact hg rfl) (by intro c fz e; cases e; exact ht rfl)
theorem WrC.size (h : WrC W0 B b l l' ks L w) : B ≤ w.heap.size := by have := bld_lt h.1; omega
theorem WrC.now (h : WrC W0 B b l l' ks L w) (hL : L.getD ks true = false) : BldF B b l w := by
  have h1 := h.1
  rw [getD_false L ks hL] at h1
  exact h1
theorem WrC.fill (h : WrC W0 B b l l' ks L w) (hL : L.getD ks true = false) (h1 : BldF B b l' w') (h2 : Below B w w') (h3 : Lib.OthersKept 5 (some b) w w') : WrC W0 B b l l' ks (L.setIfInBounds ks true) w' := by
  refine ⟨?_, h.2.1.trans h2, h.2.2.trans h3⟩
  rw [getD_set_eq L ks hL, if_pos rfl]
  exact h1
theorem WrC.done (h : WrC W0 B b l l' ks L w) (hL : L.getD ks false = true) : BldF B b l' w := by
  have h1 := h.1
  rw [hL, if_pos rfl] at h1
  exact h1
end
set_option maxRecDepth 100000 in
theorem closure_any (gi : Nat) (rv : Value) (rs : List Rout) (t : Nat) (r : Rout) (W : World) (hc : W.cell? ⟨gi, 1, none⟩ = some rv) (hr : RoutsAt W W.heap.size rv rs) (ht : rs[t]? = some r) :
    Calls Tryz.prog 47 #[.int .i64 (t : Int), .pointer (some ⟨gi, 0, none⟩)] W fun e w' => e = .returned (.string (mkS r.name.data.toList)) ∧ Below W.heap.size W w' := by
  obtain ⟨A, c, rfl, h1, h2, h3⟩ := hr
  have htl := (List.getElem?_eq_some_iff.1 ht).1
  obtain ⟨b, off, rfl, hbw, hcell⟩ := h3 (by omega)
  obtain ⟨cv, k0, _⟩ := hcell t r ht
  have hn : (t : Int) < (rs.length : Int) := by omega
  have hn0 : (0 : Int) ≤ (t : Int) := Int.natCast_nonneg t
  have HN := Lib.hid (mkS_of r.name)
  clear h3 hcell ht htl
  go_enter Tryz.func47, Tryz.ntmps47
  go_wp2
  go_ret
  exact ⟨ret_str HN.out.symm, Below.refl _ _⟩
theorem namer_closure (gi : Nat) (rv : Value) (rs : List Rout) (n : Int) (w : World) (hc : w.cell? ⟨gi, 1, none⟩ = some rv) (hg : gi < w.heap.size) (hr : RoutsAt w w.heap.size rv rs) (h0 : 0 ≤ n) (hn : n < (rs.length : Int)) :
    Namer (.func (.func 47) #[] #[.pointer (some ⟨gi, 0, none⟩)]) n (rtN (namesL rs) n) w := by
  obtain ⟨t, rfl⟩ : ∃ t : Nat, n = (t : Int) := ⟨n.toNat, by omega⟩
  obtain ⟨r, hr'⟩ : ∃ r, rs[t]? = some r := ⟨rs[t]'(by omega), List.getElem?_eq_getElem _⟩
  have e : rtN (namesL rs) (t : Int) = r.name.data.toList := by
    unfold rtN namesL
    rw [if_neg (by rw [List.length_map]; omega), Int.toNat_natCast, List.getD_eq_getElem?_getD, List.getElem?_map, hr']
    rfl
  rw [e]
  exact ⟨47, #[.pointer (some ⟨gi, 0, none⟩)], rfl, fun a W => MuLone.run_callFunc_enter Tryz.func47 (by kernel_rfl) rfl a W,
    fun W hW => closure_any gi rv rs t r W ((bcell hW hg).trans hc) ((hr.below hW (Nat.le_refl _)).more hW.size) hr'⟩
end Go.Proofs.YtdldochhondifaaGreatDoor
namespace Go.Proofs.YtdldochhondifaaGreatDoor
open Go.RowKit
attribute [local go_sem] Oper.semAt_some

theorem code_facts {ms : List Mac} (h : (checkS ms).1 = 0) : 0 < ms.length ∧ ms.length ≤ 5000 ∧ (∀ m ∈ ms, isOp m.op = true) ∧ (∀ m ∈ ms, shK m.op = 2 → 0 ≤ m.n ∧ m.n < (ms.length : Int)) ∧ ∀ m ∈ ms, shK m.op = 4 → 0 ≤ m.n := by
  obtain ⟨h1, h2, m, hm, _⟩ := (code_ok_iff ms).1 h
  have hall : ∀ m ∈ ms, isOp m.op = true ∧ numberS (shK m.op) m.n (ms.length : Int) = 0 := fun m hm => by
    obtain ⟨j, hj⟩ := List.mem_iff_getElem?.1 hm
    obtain ⟨a, _, _, _, _, b⟩ := (fault_zero m _).1 (h2 j m hj)
    exact ⟨a, b⟩
  have hl := (List.getElem?_eq_some_iff.1 hm).1
  refine ⟨by omega, h1, fun m hm => (hall m hm).1, fun m hm hk => ?_, fun m hm hk => ?_⟩
  · have := (hall m hm).2
    rw [hk] at this
    unfold numberS at this
    simp at this
    omega
  · have := (hall m hm).2
    rw [hk] at this
    unfold numberS at this
    simp at this
    omega
end Go.Proofs.YtdldochhondifaaGreatDoor
namespace Go.Proofs.YtdldochhondifaaGreatDoor
open Go.RowKit
attribute [local go_sem] Oper.semAt_some

theorem bytes_len (s : ByteArray) : s.data.toList.length = s.size := by rw [Array.length_toList]; rfl
theorem machF_pair {gs : List Glob} {rs : List Rout} (h : (machF gs rs).1 = 0) : machF gs rs = (0, 0) := by
  obtain ⟨h1, h2, h3, h4⟩ := machF_zeroA h
  exact machF_ok h1 (by omega) h3 h4
theorem globsTo_zero (gs : List Glob) : globsTo gs 0 = [] := by simp [globsTo]
theorem routsTo_zero (rs : List Rout) : routsTo rs 0 = [] := by simp [routsTo]
theorem head_len {gs : List Glob} {rs : List Rout} (h : ImgOk gs rs) {g : Glob} (hg : g ∈ gs) : (globHead g).length ≤ 50 := by
  obtain ⟨h1, h2, _⟩ := h.gname g hg
  have := itoa_len h2
  unfold globHead
  simp only [List.length_append, List.length_cons, List.length_nil]
  rw [bytes_len]
  omega
theorem globL_len {gs : List Glob} {rs : List Rout} (h : ImgOk gs rs) {g : Glob} (hg : g ∈ gs) : (globL g).length ≤ 5000 := by
  obtain ⟨_, _, h3, h4⟩ := h.gname g hg
  have h1 := head_len h hg
  have h2 := initTo_len h4 g.init.length
  unfold globL
  simp only [List.length_append, List.length_cons, List.length_nil]
  omega
theorem globsTo_len {gs : List Glob} {rs : List Rout} (h : ImgOk gs rs) : ∀ k, k ≤ gs.length → (globsTo gs k).length ≤ 5000 * k
  | 0, _ => by simp [globsTo_zero]
  | k + 1, hk => by
    obtain ⟨g, hg⟩ : ∃ g, gs[k]? = some g := ⟨gs[k]'(by omega), List.getElem?_eq_getElem _⟩
    rw [globsTo_succ hg, List.length_append]
    have := globsTo_len h k (by omega)
    have := globL_len h (List.mem_of_getElem? hg)
    omega
theorem rt_len {gs : List Glob} {rs : List Rout} (h : ImgOk gs rs) (n : Int) : (rtN (namesL rs) n).length ≤ 100 := by
  unfold rtN
  rw [if_neg (by unfold namesL; rw [List.length_map]; have := h.r0; omega), List.getD_eq_getElem?_getD]
  unfold namesL
  rw [List.getElem?_map]
  cases hr : rs[n.toNat]? with
  | none => simp
  | some r =>
    have := h.rname r (List.mem_of_getElem? hr)
    simp only [Option.map_some, Option.getD_some]
    rw [bytes_len]
    omega
theorem routText_len {gs : List Glob} {rs : List Rout} (h : ImgOk gs rs) {r : Rout} (hr : r ∈ rs) : (textL (rtN (namesL rs)) (readL r.code).2).length ≤ 2150000 := by
  obtain ⟨_, h2, h3, _⟩ := h.code r hr
  obtain ⟨k1, k2, _⟩ := code_facts h2
  have := textTo_len (rt := rtN (namesL rs)) (l := (readL r.code).2) h3 (fun m _ => rt_len h m.n) (by omega) (Nat.le_refl _)
  unfold textL
  omega
theorem routL_len {gs : List Glob} {rs : List Rout} (h : ImgOk gs rs) {r : Rout} (hr : r ∈ rs) : (routL rs r).length ≤ 2150030 := by
  have h1 := routText_len h hr
  have h2 := h.rname r hr
  unfold routL routHead
  simp only [List.length_append, List.length_cons, List.length_nil]
  rw [bytes_len]
  omega
theorem routsTo_len {gs : List Glob} {rs : List Rout} (h : ImgOk gs rs) : ∀ k, k ≤ rs.length → (routsTo rs k).length ≤ 2150030 * k
  | 0, _ => by simp [routsTo_zero]
  | k + 1, hk => by
    obtain ⟨r, hr⟩ : ∃ r, rs[k]? = some r := ⟨rs[k]'(by omega), List.getElem?_eq_getElem _⟩
    rw [routsTo_succ hr, List.length_append]
    have := routsTo_len h k (by omega)
    have := routL_len h (List.mem_of_getElem? hr)
    omega
theorem WrC.row {W0 w : World} {B b : Nat} {l l' : List UInt8} {ks : Nat} {L : Array Bool} (h : WrC W0 B b l l' ks L w) {base : Nat} {e : TypeId} {size n : Nat} {v : Value} {xs : List Value} (ho : W0.ownsRow base e size v n xs) (hb : b < base) (he : e ≠ 5) : w.ownsRow base e size v n xs := by
  obtain ⟨h1, h2⟩ := ho
  refine ⟨h1, ?_⟩
  rcases h2 with h2 | ⟨g, cap, cur, rfl, hg, hh, h3⟩
  · exact .inl h2
  · exact .inr ⟨g, cap, cur, rfl, hg, h.blk hh (by omega) he, h3⟩
set_option maxRecDepth 100000 in
set_option maxHeartbeats 16000000 in
theorem Apart_any (gv rv : Value) (gs : List Glob) (rs : List Rout) (w : World) (hg : GlobsAt w w.heap.size gv gs) (hr : RoutsAt w w.heap.size rv rs) (hgo : GOk gs) (hro : ROk rs) (hgi : GIn gs) (hT : Tab w) (hP : Pow w) (hW : Wrd w) :
    Calls Tryz.prog 21 #[.agg #[gv, rv]] w fun e w' => e = .returned (.tuple #[.string (mkS (apartF gs rs)), .agg #[.int .i64 (machF gs rs).1, .int .i64 (machF gs rs).2]]) ∧ Below w.heap.size w w' := by
  have HG := Lib.hid hg
  have HR := Lib.hid hr
  have Hgo := Lib.hid hgo
  have Hro := Lib.hid hro
  have Hgi := Lib.hid hgi
  have HT := Lib.hid hT
  have HP := Lib.hid hP
  have HWd := Lib.hid hW
  obtain ⟨uc, ua, hun⟩ : ∃ uc ua, machF gs rs = (uc, ua) := ⟨_, _, rfl⟩
  have Hun := Lib.hid hun
  rw [hun]
  obtain ⟨B, hB⟩ : ∃ B, w.heap.size = B := ⟨_, rfl⟩
  have Hw := Lib.hid hB
  have HI0 : Hid (Blk ((w.alloc (.cells #[gv, rv] 43)).alloc (.cells #[.int .i64 0, .int .i64 0] 24)) B 43 #[gv, rv]) := Lib.hid (by rw [← hB]; exact (Blk.new w _ _).alloc _)
  have HX0 : Hid (Blk ((w.alloc (.cells #[gv, rv] 43)).alloc (.cells #[.int .i64 0, .int .i64 0] 24)) (B + 1) 24 #[.int .i64 0, .int .i64 0]) := Lib.hid (by simpa [← hB] using Blk.new (w.alloc (.cells #[gv, rv] 43)) 24 #[.int .i64 0, .int .i64 0])
  have HB0 : Hid (Below B w ((w.alloc (.cells #[gv, rv] 43)).alloc (.cells #[.int .i64 0, .int .i64 0] 24))) := Lib.hid (by rw [← hB]; exact ((Below.refl _ _).alloc (Nat.le_refl _) _).alloc (by simp) _)
  clear hg hr hgo hro hgi hT hP hW hun
  go_enter Tryz.func21, Tryz.ntmps21
  go_upto_region 1 with fail
  clear hB
  generalize (w.alloc (.cells #[gv, rv] 43)).alloc (.cells #[.int .i64 0, .int .i64 0] 24) = W0 at *
  have i0 := HI0.out.cell 0
  have i1 := HI0.out.cell 1
  have HCk := Lib.hid (MCheck_any gv rv gs rs W0 (HG.out.below HB0.out (by rw [Hw.out]; exact Nat.le_refl _) |>.more (by rw [Hw.out]; have := HI0.out.lt; omega)) (HR.out.below HB0.out (by rw [Hw.out]; exact Nat.le_refl _) |>.more (by rw [Hw.out]; have := HI0.out.lt; omega)) Hgo.out Hro.out (HT.out.own (by rw [Hw.out]; exact HB0.out)))
  go_wp2_with fail
  refine HCk.out.mono ?_
  rintro e W1 ⟨rfl, hb1⟩
  rw [Hun.out]
  have hz : B ≤ W0.heap.size := by have := HI0.out.lt; omega
  have HB2 : Hid (Below B w (W1.alloc (.cells #[.int .i64 uc, .int .i64 ua] 24))) := Lib.hid ((HB0.out.trans (hb1.mono hz)).alloc (Nat.le_trans hz hb1.size) _)
  have HX2 := Lib.hid ((HX0.out.below hb1 HX0.out.lt).alloc (.cells #[.int .i64 uc, .int .i64 ua] 24))
  have HI2 := Lib.hid ((HI0.out.below hb1 HI0.out.lt).alloc (.cells #[.int .i64 uc, .int .i64 ua] 24))
  have HF2 : Hid (Blk (W1.alloc (.cells #[.int .i64 uc, .int .i64 ua] 24)) W1.heap.size 24 #[.int .i64 uc, .int .i64 ua]) := Lib.hid (Blk.new _ _ _)
  clear hb1 hz HCk HB0 HX0 HI0 i0 i1
  go_upto_region 2 with fail
  generalize W1.alloc (.cells #[.int .i64 uc, .int .i64 ua] 24) = W2 at *
  generalize W1.heap.size = g4 at *
  have x0 := HF2.out.cell 0
  have x1 := HF2.out.cell 1
  have y0 := HX2.out.cell 0
  have y1 := HX2.out.cell 1
  have hfz := HX2.out.frozen 0
  have hfz1 := HX2.out.frozen 1
  by_cases h0 : uc = 0
  · subst h0
    have hok := img_ok (gs := gs) (rs := rs) (by rw [Hun.out]) Hgo.out Hgi.out Hro.out
    obtain rfl : ua = 0 := by
      have h := machF_pair (gs := gs) (rs := rs) (by rw [Hun.out])
      rw [Hun.out] at h
      injection h
    have Hok := Lib.hid hok
    have HE : Hid (apartF gs rs = globsTo gs gs.length ++ routsTo rs rs.length) := Lib.hid (by unfold apartF; rw [if_pos (by rw [Hun.out])]; rfl)
    have hgl := hok.gl
    have hrl := hok.rl
    have hr0 := hok.r0
    obtain ⟨gA, gc, rfl, gl1, gl2, gl3⟩ := HG.out
    obtain ⟨rA, rc, rfl, rl1, rl2, rl3⟩ := HR.out
    have HGc := Lib.hid gl3
    have HRc := Lib.hid rl3
    obtain ⟨gn, hgn⟩ : ∃ gn, gs.length = gn := ⟨_, rfl⟩
    obtain ⟨rn, hrn⟩ : ∃ rn, rs.length = rn := ⟨_, rfl⟩
    have Hgn := Lib.hid hgn
    have Hrn := Lib.hid hrn
    rw [hgn] at gl1 hgl
    rw [hrn] at rl1 hrl hr0
    obtain ⟨gb, hgb⟩ : ∃ gb, W2.heap.size = gb := ⟨_, rfl⟩
    have Hgx := Lib.hid hgb
    have HBb : Hid (BldF gb gb (globsTo gs 0) (W2.alloc (.cells #[.pointer none, .slice none 0 0] 87))) := Lib.hid (by rw [globsTo_zero, ← hgb]; exact bld_fresh W2)
    have HBz : Hid (Below gb W2 (W2.alloc (.cells #[.pointer none, .slice none 0 0] 87))) := Lib.hid ((Below.refl _ _).alloc (by omega) _)
    have HIb : Hid (B < gb ∧ B + 1 < gb) := Lib.hid (by rw [← hgb]; exact ⟨HI2.out.lt, HX2.out.lt⟩)
    have HI3 : Hid (Blk (W2.alloc (.cells #[.pointer none, .slice none 0 0] 87)) B 43 #[.slice gA gn gc, .slice rA rn rc]) := Lib.hid (by have := HI2.out.alloc (.cells #[.pointer none, .slice none 0 0] 87); rwa [hgn, hrn] at this)
    rw [hgn, hrn]
    clear hok gl3 rl3 hgn hrn y0 y1 hfz hfz1
    go_upto_region 5 with fail
    clear x0 x1 hgb
    generalize W2.alloc (.cells #[.pointer none, .slice none 0 0] 87) = Wb at *
    have i0 := HI3.out.cell 0
    go_upto_region 6 with fail
    clear i0
    go_loopg [23] gn (fun gk iv wx => ∃ (k : Nat) (Wx : World), Wx = wx ∧ iv = .int .i64 (k : Int) ∧ k + gk = gn ∧ Hid (BldF gb gb (globsTo gs k) wx) ∧ Hid (Below gb W2 wx))
    case atStart => exact ⟨0, _, rfl, rfl, by omega, HBb, HBz⟩
    case round =>
      clear HBb HBz
      obtain ⟨k, Wx, rfl, rfl, hk, HBd, HBx⟩ := hrel
      have hgw : B ≤ gb := by have := HIb.out.1; omega
      have hgy : gb ≤ Wx.heap.size := by have := HBx.out.size; have := Hgx.out; omega
      have HBw : Hid (Below B w Wx) := Lib.hid (HB2.out.trans (HBx.out.mono hgw))
      rcases gk with _ | nk
      · obtain rfl : k = gn := by omega
        have hkn : ¬ (k : Int) < (k : Int) := by omega
        have i1 : Wx.cell? ⟨B, 1, none⟩ = some (.slice rA rn rc) := by
          have h := (HI2.out.below HBx.out HIb.out.1).cell 1
          rwa [Hrn.out] at h
        have HBd0 : Hid (BldF gb gb (globsTo gs k ++ routsTo rs 0) Wx) := Lib.hid (by rw [routsTo_zero, List.append_nil]; exact HBd.out)
        go_upto_region 17 with fail
        clear i1 hkn
        go_loopg [53] rn (fun gk iv wx => ∃ (t : Nat) (Wz : World), Wz = wx ∧ iv = .int .i64 (t : Int) ∧ t + gk = rn ∧ Hid (BldF gb gb (globsTo gs k ++ routsTo rs t) wx) ∧ Hid (Below gb W2 wx))
        case atStart => exact ⟨0, _, rfl, rfl, by omega, HBd0, HBx⟩
        case round =>
          clear HBd0 HBx HBd HBw hgy
          obtain ⟨t, Wz, rfl, rfl, ht, HBd, HBx⟩ := hrel
          have hgz : gb ≤ Wz.heap.size := by have := HBx.out.size; have := Hgx.out; omega
          have HBw : Hid (Below B w Wz) := Lib.hid (HB2.out.trans (HBx.out.mono hgw))
          have HLen : Hid ((globsTo gs k ++ routsTo rs t).length ≤ 90000000) := Lib.hid (by
            have h1 := globsTo_len Hok.out k (by rw [Hgn.out]; exact Nat.le_refl _)
            have h2 := routsTo_len Hok.out t (by rw [Hrn.out]; omega)
            rw [List.length_append]
            omega)
          rcases gk with _ | nt
          · obtain rfl : t = rn := by omega
            have htn : ¬ (t : Int) < (t : Int) := by omega
            have HSt := Lib.hid (Tryz.Builder_String_any_k gb gb (globsTo gs k ++ routsTo rs t) Wz HBd.out hgz)
            go_wp2_with fail
            refine HSt.out.mono ?_
            rintro e W9 ⟨rfl, _, hb9, _⟩
            have HX9 := Lib.hid ((HX2.out.below HBx.out HIb.out.2).below hb9 HIb.out.2)
            have HB9 := Lib.hid (HBw.out.trans (hb9.mono hgw))
            have y0 := HX9.out.cell 0
            have y1 := HX9.out.cell 1
            have hfz := HX9.out.frozen 0
            have hfz1 := HX9.out.frozen 1
            clear hb9 HSt
            go_wp2_with fail
            refine end_tmp_cell rfl rfl (HX9.out.set2 (.int .i64 0) (.int .i64 0)) Tryz.underlying24 rfl (by kernel_rfl) rfl ⟨by rw [HE.out, Hgn.out, Hrn.out]; rfl, ?_⟩
            rw [Hw.out]
            exact (HB9.out.setCell (Nat.le_succ _) _).setCell (Nat.le_succ _) _
          · have htn : (t : Int) < (rn : Int) := by omega
            have ht0 : (0 : Int) ≤ (t : Int) := Int.natCast_nonneg t
            obtain ⟨r, hr⟩ : ∃ r, rs[t]? = some r := ⟨rs[t]'(by rw [Hrn.out]; omega), List.getElem?_eq_getElem _⟩
            have hrm := List.mem_of_getElem? hr
            have hrn12 := Hok.out.rname r hrm
            have Hcok := Lib.hid (Hok.out.code r hrm)
            have Hcf := Lib.hid (code_facts (Hok.out.code r hrm).2.1)
            have hrl' := routL_len Hok.out hrm
            have htl := routText_len Hok.out hrm
            have hrb := (Hro.out r hrm).2
            have Hrs := Lib.hid (routsTo_succ hr)
            obtain ⟨rb, roff, rfl, hrbw, hrc⟩ := HRc.out (by rw [Hrn.out]; omega)
            obtain ⟨cv, a0, a1, hcv⟩ := hrc t r hr
            rw [Hw.out] at hrbw
            have a0 := (bcell HBw.out hrbw).trans a0
            have a1 := (bcell HBw.out hrbw).trans a1
            have hcv2 : BAt Wz B cv r.code := hcv.below HBw.out (by rw [Hw.out]; exact Nat.le_refl _) |>.more (by rw [Hw.out]; exact Nat.le_refl _)
            obtain ⟨cA, cc, hce, _⟩ := id hcv2
            have Hcv := Lib.hid hcv2
            subst hce
            have HM1 : Hid (Blk (Wz.alloc (.cells #[.string r.name, (.slice cA r.code.length cc)] 76)) Wz.heap.size 76 #[.string r.name, .slice cA r.code.length cc]) := Lib.hid (Blk.new _ _ _)
            have HBd1 : Hid (BldF gb gb (globsTo gs k ++ routsTo rs t) (Wz.alloc (.cells #[.string r.name, (.slice cA r.code.length cc)] 76))) := Lib.hid (bld_below HBd.out ((Below.refl _ _).alloc (Nat.le_refl _) _))
            have HBy1 : Hid (Below gb W2 (Wz.alloc (.cells #[.string r.name, (.slice cA r.code.length cc)] 76))) := Lib.hid (HBx.out.alloc hgz _)
            have HBw1 : Hid (Below B w (Wz.alloc (.cells #[.string r.name, (.slice cA r.code.length cc)] 76))) := Lib.hid (HB2.out.trans (HBy1.out.mono hgw))
            have Hg11 : Hid (gb < Wz.heap.size) := Lib.hid (bld_lt HBd.out).2
            have Hcv1 : Hid (BAt (Wz.alloc (.cells #[.string r.name, (.slice cA r.code.length cc)] 76)) B (.slice cA r.code.length cc) r.code) := Lib.hid (Hcv.out.below ((Below.refl B Wz).alloc (by omega) _) (Nat.le_refl _))
            clear hr hrm hcv hcv2 hrc HBd HBx HBw Hcv
            go_upto_region 19 with fail
            generalize Wz.alloc (.cells #[.string r.name, (.slice cA r.code.length cc)] 76) = Y1 at *
            generalize Wz.heap.size = g11 at *
            clear a0 a1 hgz
            have m1 := HM1.out.cell 1
            have hgY1 : gb < Y1.heap.size := by have := HM1.out.lt; have := Hg11.out; omega
            have HRd := Lib.hid (Read_any (.slice cA r.code.length cc) r.code Y1 (Hcv1.out.more (by omega)) hrb (HT.out.own (by rw [Hw.out]; exact HBw1.out)))
            go_wp2_with fail
            refine HRd.out.mono ?_
            rintro e Y2 ⟨av, rfl, hav, hb2⟩
            rw [Hcok.out.1]
            have hb2' : Below Y1.heap.size Y1 (Y2.alloc (.cells #[.int .i64 0, .int .i64 0] 24)) := hb2.alloc hb2.size _
            have HM3 := Lib.hid (HM1.out.below hb2' HM1.out.lt)
            have HBd3 := Lib.hid (bld_below HBd1.out hb2')
            have HBy3 := Lib.hid (HBy1.out.trans (hb2'.mono (Nat.le_of_lt hgY1)))
            have HBw3 := Lib.hid (HB2.out.trans (HBy3.out.mono hgw))
            have HO3 : Hid (OwnMacs (Y2.alloc (.cells #[.int .i64 0, .int .i64 0] 24)) Y1.heap.size av (readL r.code).2) := Lib.hid (hav.below ((Below.refl _ _).alloc (Nat.le_refl _) _) rfl)
            have HI4 : Hid (Blk (Y2.alloc (.cells #[.int .i64 0, .int .i64 0] 24)) B 43 #[.slice gA gs.length gc, .slice (some ⟨rb, roff, none⟩) rs.length rc]) := Lib.hid (HI2.out.below HBy3.out HIb.out.1)
            clear hav hb2 hb2' HRd m1 HM1 HBd1 HBy1 HBw1 Hcv1
            go_upto_region 20 with fail
            generalize Y2.alloc (.cells #[.int .i64 0, .int .i64 0] 24) = Y3 at *
            have hgY := hgY1
            generalize Y1.heap.size = S1 at *
            have hg11b : g11 ≠ gb := by have := Hg11.out; omega
            obtain ⟨P1, hP1⟩ : ∃ P1, [114, 111, 117, 116, 105, 110, 101, 32] ++ r.name.data.toList = P1 := ⟨_, rfl⟩
            have hP1l : P1.length ≤ 20 := by rw [← hP1, List.length_append, bytes_len]; simp; omega
            have hP2l : (routHead r).length ≤ 21 := by
              unfold routHead
              simp only [List.length_append, List.length_cons, List.length_nil]
              rw [bytes_len]
              omega
            have z1 : (mkS P1).size ≤ 20 := by rw [mkS_size]; exact hP1l
            have z2 : (mkS (routHead r)).size ≤ 21 := by rw [mkS_size]; exact hP2l
            have z3 : (mkS (textL (rtN (namesL rs)) (readL r.code).2)).size ≤ 2150000 := by rw [mkS_size]; exact htl
            have q1 : ¬ 8 + r.name.size > 9223372036854775807 := by omega
            have q2 : ¬ (mkS P1).size + 1 > 9223372036854775807 := by omega
            have q3 : ¬ (mkS (routHead r)).size + (mkS (textL (rtN (namesL rs)) (readL r.code).2)).size > 9223372036854775807 := by omega
            have e1 : ({ data := #[114, 111, 117, 116, 105, 110, 101, 32] } : ByteArray) ++ r.name = mkS P1 := by
              rw [← hP1, ← mkS_append, mkS_of]
              rfl
            have e2 : mkS P1 ++ ({ data := #[10] } : ByteArray) = mkS (routHead r) := by
              unfold routHead
              rw [hP1]
              exact mkS_append _ [10]
            have e3 : mkS (routHead r) ++ mkS (textL (rtN (namesL rs)) (readL r.code).2) = mkS (routL rs r) := mkS_append _ _
            clear hP1 z1 z2 z3 hP1l hP2l htl
            obtain ⟨l1, hl1⟩ : ∃ l1, globsTo gs k ++ routsTo rs t = l1 := ⟨_, rfl⟩
            have Hl1 := Lib.hid hl1
            rw [hl1] at HBd3 HLen
            clear hl1
            refine wp_region_lex (WrC Y3 gb gb l1 (l1 ++ routL rs r) 8) (by kernel_rfl) (by kernel_rfl) (WrC.start HBd3.out) ?_
            apply wpLex_step
            · rfl
            · intro L w' hC hL hd
              have HC1 := Lib.hid hC
              clear hC hd
              go_simp
              exact ⟨HC1.out.stay _ (by decide), rfl⟩
            simp only [Act.put, List.setIfInBounds_toArray, List.set_cons_succ, List.set_cons_zero, Nat.reduceAdd]
            apply wpLex_step
            · rfl
            · intro L w' hC hL hd
              have HC1 := Lib.hid hC
              clear hC hd
              have m0 := (HC1.out.blk HM3.out hg11b (by decide)).cell 0
              go_simp
              exact ⟨HC1.out.stay _ (by decide), rfl⟩
            simp only [Act.put, List.setIfInBounds_toArray, List.set_cons_succ, List.set_cons_zero, Nat.reduceAdd]
            apply wpLex_step
            · rfl
            · intro L w' hC hL hd
              have HC1 := Lib.hid hC
              clear hC hd
              go_simp
              exact ⟨HC1.out.stay _ (by decide), rfl⟩
            simp only [Act.put, List.setIfInBounds_toArray, List.set_cons_succ, List.set_cons_zero, Nat.reduceAdd]
            apply wpLex_step
            · rfl
            · intro L w' hC hL hd
              have HC1 := Lib.hid hC
              clear hC hd
              go_simp
              exact ⟨HC1.out.stay _ (by decide), rfl⟩
            simp only [Act.put, List.setIfInBounds_toArray, List.set_cons_succ, List.set_cons_zero, Nat.reduceAdd]
            apply wpLex_step
            · rfl
            · intro L w' hC hL hd
              have HC1 := Lib.hid hC
              clear hC hd
              go_simp
              exact ⟨HC1.out.stay _ (by decide), rfl⟩
            simp only [Act.put, List.setIfInBounds_toArray, List.set_cons_succ, List.set_cons_zero, Nat.reduceAdd]
            apply wpLex_step
            · rfl
            · intro L w' hC hL hd
              have HC1 := Lib.hid hC
              clear hC hd
              go_simp
              exact ⟨HC1.out.stay _ (by decide), rfl⟩
            simp only [Act.put, List.setIfInBounds_toArray, List.set_cons_succ, List.set_cons_zero, Nat.reduceAdd]
            apply wpLex_step
            · rfl
            · intro L w' hC hL hd
              have HC1 := Lib.hid hC
              clear hC hd
              have HBq := Lib.hid (HBw3.out.trans (HC1.out.2.1.mono hgw))
              have HMq := Lib.hid (OwnMacs.macs (HC1.out.row HO3.out hgY (by decide)))
              have HIq := Lib.hid (HC1.out.blk HI4.out (by have := HIb.out.1; omega) (by decide))
              have HRq := Lib.hid ((HR.out.below HBq.out (by rw [Hw.out]; exact Nat.le_refl _)).more HBq.out.size)
              go_simp
              refine (OfText_any av (.func (.func 47) #[] #[.pointer (some ⟨B, 0, none⟩)]) (readL r.code).2 (rtN (namesL rs)) w' HMq.out Hcok.out.2.2.1 Hcf.out.2.2.1 Hcf.out.2.2.2.1 (HT.out.own (by rw [Hw.out]; exact HBq.out)) (HP.out.own (by rw [Hw.out]; exact HBq.out)) (HWd.out.own (by rw [Hw.out]; exact HBq.out)) (fun m hm h4 => namer_closure B _ rs m.n w' (HIq.out.cell 1) HIq.out.lt HRq.out (Hcf.out.2.2.2.2 m hm h4) (Hcok.out.2.2.2 m hm (call_op (Hcf.out.2.2.1 m hm) h4))) (fun m _ => rt_len Hok.out m.n) Hcf.out.1 (by have := Hcf.out.2.1; omega)).mono ?_
              rintro e w2 ⟨rfl, hb⟩
              exact ⟨rfl, HC1.out.keep _ (by decide) hb⟩
            simp only [Act.put, List.setIfInBounds_toArray, List.set_cons_succ, List.set_cons_zero, Nat.reduceAdd]
            apply wpLex_step
            · rfl
            · intro L w' hC hL hd
              have HC1 := Lib.hid hC
              clear hC hd
              go_simp
              exact ⟨HC1.out.stay _ (by decide), rfl⟩
            simp only [Act.put, List.setIfInBounds_toArray, List.set_cons_succ, List.set_cons_zero, Nat.reduceAdd]
            apply wpLex_step
            · rfl
            · intro L w' hC hL hd
              have HC1 := Lib.hid hC
              clear hC hd
              go_simp
              refine (write_all gb gb _ (routL rs r) w' (HC1.out.now hL) (by have := HLen.out; omega) HC1.out.size).mono ?_
              rintro e w2 ⟨rfl, h1, h2, h3⟩
              exact ⟨rfl, HC1.out.fill hL h1 h2 h3⟩
            simp only [Act.put, List.setIfInBounds_toArray, List.set_cons_succ, List.set_cons_zero, Nat.reduceAdd]
            refine wpLex_nil ?_
            intro L w9 hC hall
            have HBd9 : Hid (BldF gb gb (globsTo gs k ++ routsTo rs (t + 1)) w9) := Lib.hid (by rw [Hrs.out, ← List.append_assoc, Hl1.out]; exact hC.done (hall 8 (by decide)))
            have HBy9 := Lib.hid (HBy3.out.trans hC.2.1)
            clear hC hall HBd3 HBy3 HM3 HBw3 HO3 HI4
            clear q1 q2 q3 e1 e2 e3
            go_wp2_with fail
            go_roundg nt
            case measure => omega
            case rel => exact ⟨t + 1, _, rfl, by go_num, by omega, HBd9, HBy9⟩
      · have hkn : (k : Int) < (gn : Int) := by omega
        have hk0 : (0 : Int) ≤ (k : Int) := Int.natCast_nonneg k
        obtain ⟨g, hg⟩ : ∃ g, gs[k]? = some g := ⟨gs[k]'(by rw [Hgn.out]; omega), List.getElem?_eq_getElem _⟩
        have hgm := List.mem_of_getElem? hg
        obtain ⟨hn12, hsz, hil, hix⟩ := Hok.out.gname g hgm
        have Hix := Lib.hid hix
        have hhl := head_len Hok.out hgm
        have HLen : Hid ((globsTo gs k).length ≤ 50000) := Lib.hid (by
          have := globsTo_len Hok.out k (by rw [Hgn.out]; omega)
          omega)
        have Hgs := Lib.hid (globsTo_succ hg)
        obtain ⟨ab, aoff, rfl, hab, hac⟩ := HGc.out (by rw [Hgn.out]; omega)
        obtain ⟨iv, a0, a1, a2, hiv⟩ := hac k g hg
        rw [Hw.out] at hab
        have a0 := (bcell HBw.out hab).trans a0
        have a1 := (bcell HBw.out hab).trans a1
        have a2 := (bcell HBw.out hab).trans a2
        obtain ⟨iA, ic, rfl, il1, il2, il3⟩ := hiv
        obtain ⟨il, hIL⟩ : ∃ il, g.init.length = il := ⟨_, rfl⟩
        have HIL := Lib.hid hIL
        rw [hIL] at a2 il1 hil
        clear hIL
        have Hil := Lib.hid il3
        have HM1 : Hid (Blk (Wx.alloc (.cells #[.string g.name, .int .i64 g.size, .slice iA il ic] 79)) Wx.heap.size 79 #[.string g.name, .int .i64 g.size, .slice iA il ic]) := Lib.hid (Blk.new _ _ _)
        have HBd1 : Hid (BldF gb gb (globsTo gs k) (Wx.alloc (.cells #[.string g.name, .int .i64 g.size, .slice iA il ic] 79))) := Lib.hid (bld_below HBd.out ((Below.refl _ _).alloc (Nat.le_refl _) _))
        have HBy1 : Hid (Below gb W2 (Wx.alloc (.cells #[.string g.name, .int .i64 g.size, .slice iA il ic] 79))) := Lib.hid (HBx.out.alloc hgy _)
        have HBw1 : Hid (Below B w (Wx.alloc (.cells #[.string g.name, .int .i64 g.size, .slice iA il ic] 79))) := Lib.hid (HB2.out.trans (HBy1.out.mono hgw))
        have Hg7 : Hid (gb < Wx.heap.size) := Lib.hid (bld_lt HBd.out).2
        clear hg hgm hix hac il3 HBd HBx HBw
        go_upto_region 8 with fail
        generalize Wx.alloc (.cells #[.string g.name, .int .i64 g.size, .slice iA il ic] 79) = Y1 at *
        generalize Wx.heap.size = g7 at *
        clear a0 a1 a2 hgy
        have hg7b : g7 ≠ gb := by have := Hg7.out; omega
        have hitl := itoa_len hsz
        obtain ⟨P1, hP1⟩ : ∃ P1, [103, 108, 111, 98, 97, 108, 32] ++ g.name.data.toList = P1 := ⟨_, rfl⟩
        obtain ⟨P2, hP2⟩ : ∃ P2, P1 ++ [32] = P2 := ⟨_, rfl⟩
        have hP1l : P1.length ≤ 19 := by rw [← hP1, List.length_append, bytes_len]; simp; omega
        have hP2l : P2.length ≤ 20 := by rw [← hP2, List.length_append]; simp; omega
        have z1 : (mkS P1).size ≤ 19 := by rw [mkS_size]; exact hP1l
        have z2 : (mkS P2).size ≤ 20 := by rw [mkS_size]; exact hP2l
        have z3 : (mkS (Lib.itoa g.size)).size ≤ 20 := by rw [mkS_size]; exact hitl
        have q1 : ¬ 7 + g.name.size > 9223372036854775807 := by omega
        have q2 : ¬ (mkS P1).size + 1 > 9223372036854775807 := by omega
        have q3 : ¬ (mkS P2).size + (mkS (Lib.itoa g.size)).size > 9223372036854775807 := by omega
        have e1 : ({ data := #[103, 108, 111, 98, 97, 108, 32] } : ByteArray) ++ g.name = mkS P1 := by
          rw [← hP1, ← mkS_append, mkS_of]
          rfl
        have e2 : mkS P1 ++ ({ data := #[32] } : ByteArray) = mkS P2 := by rw [← hP2]; exact mkS_append _ [32]
        have e3 : mkS P2 ++ mkS (Lib.itoa g.size) = mkS (globHead g) := by
          rw [mkS_append, ← hP2, ← hP1]
          rfl
        clear hP1 hP2 z1 z2 z3 hP1l hP2l hitl
        refine wp_region_lex (WrC Y1 gb gb (globsTo gs k) (globsTo gs k ++ globHead g) 8) (by kernel_rfl) (by kernel_rfl) (WrC.start HBd1.out) ?_
        apply wpLex_step
        · rfl
        · intro L w' hC hL hd
          have HC1 := Lib.hid hC
          clear hC hd
          go_simp
          exact ⟨HC1.out.stay _ (by decide), rfl⟩
        simp only [Act.put, List.setIfInBounds_toArray, List.set_cons_succ, List.set_cons_zero, Nat.reduceAdd]
        apply wpLex_step
        · rfl
        · intro L w' hC hL hd
          have HC1 := Lib.hid hC
          clear hC hd
          have m0 := (HC1.out.blk HM1.out hg7b (by decide)).cell 0
          go_simp
          exact ⟨HC1.out.stay _ (by decide), rfl⟩
        simp only [Act.put, List.setIfInBounds_toArray, List.set_cons_succ, List.set_cons_zero, Nat.reduceAdd]
        apply wpLex_step
        · rfl
        · intro L w' hC hL hd
          have HC1 := Lib.hid hC
          clear hC hd
          go_simp
          exact ⟨HC1.out.stay _ (by decide), rfl⟩
        simp only [Act.put, List.setIfInBounds_toArray, List.set_cons_succ, List.set_cons_zero, Nat.reduceAdd]
        apply wpLex_step
        · rfl
        · intro L w' hC hL hd
          have HC1 := Lib.hid hC
          clear hC hd
          go_simp
          exact ⟨HC1.out.stay _ (by decide), rfl⟩
        simp only [Act.put, List.setIfInBounds_toArray, List.set_cons_succ, List.set_cons_zero, Nat.reduceAdd]
        apply wpLex_step
        · rfl
        · intro L w' hC hL hd
          have HC1 := Lib.hid hC
          clear hC hd
          go_simp
          exact ⟨HC1.out.stay _ (by decide), rfl⟩
        simp only [Act.put, List.setIfInBounds_toArray, List.set_cons_succ, List.set_cons_zero, Nat.reduceAdd]
        apply wpLex_step
        · rfl
        · intro L w' hC hL hd
          have HC1 := Lib.hid hC
          clear hC hd
          have m1 := (HC1.out.blk HM1.out hg7b (by decide)).cell 1
          go_simp
          exact ⟨HC1.out.stay _ (by decide), rfl⟩
        simp only [Act.put, List.setIfInBounds_toArray, List.set_cons_succ, List.set_cons_zero, Nat.reduceAdd]
        apply wpLex_step
        · rfl
        · intro L w' hC hL hd
          have HC1 := Lib.hid hC
          clear hC hd
          go_simp
          refine (Itoa_any g.size hsz w' (HP.out.own (by rw [Hw.out]; exact HBw1.out.trans (HC1.out.2.1.mono hgw)))).mono ?_
          rintro e w2 ⟨rfl, hb⟩
          exact ⟨rfl, HC1.out.keep _ (by decide) hb⟩
        simp only [Act.put, List.setIfInBounds_toArray, List.set_cons_succ, List.set_cons_zero, Nat.reduceAdd]
        apply wpLex_step
        · rfl
        · intro L w' hC hL hd
          have HC1 := Lib.hid hC
          clear hC hd
          go_simp
          exact ⟨HC1.out.stay _ (by decide), rfl⟩
        simp only [Act.put, List.setIfInBounds_toArray, List.set_cons_succ, List.set_cons_zero, Nat.reduceAdd]
        apply wpLex_step
        · rfl
        · intro L w' hC hL hd
          have HC1 := Lib.hid hC
          clear hC hd
          go_simp
          refine (write_all gb gb _ (globHead g) w' (HC1.out.now hL) (by have := HLen.out; omega) HC1.out.size).mono ?_
          rintro e w2 ⟨rfl, h1, h2, h3⟩
          exact ⟨rfl, HC1.out.fill hL h1 h2 h3⟩
        simp only [Act.put, List.setIfInBounds_toArray, List.set_cons_succ, List.set_cons_zero, Nat.reduceAdd]
        refine wpLex_nil ?_
        intro L w9 hC hall
        have HBd9 := Lib.hid (hC.done (hall 8 (by decide)))
        have HBy9 := Lib.hid (HBy1.out.trans hC.2.1)
        have HM9 := Lib.hid (hC.blk HM1.out hg7b (by decide))
        clear hC hall HBd1 HBy1 HM1 HBw1
        clear q1 q2 q3 e1 e2 e3
        have m2 := HM9.out.cell 2
        go_upto_region 10 with fail
        clear m2 HM9
        have HBd0 : Hid (BldF gb gb (globsTo gs k ++ globHead g ++ initTo g 0) w9) := Lib.hid (by rw [initTo_zero, List.append_nil]; exact HBd9.out)
        clear HBd9
        go_loopg [39] il (fun gk iv wx => ∃ (t : Nat) (Wz : World), Wz = wx ∧ iv = .int .i64 (t : Int) ∧ t + gk = il ∧ Hid (BldF gb gb (globsTo gs k ++ globHead g ++ initTo g t) wx) ∧ Hid (Below gb W2 wx))
        case atStart => exact ⟨0, _, rfl, rfl, by omega, HBd0, HBy9⟩
        case round =>
          clear HBd0 HBy9
          obtain ⟨t, Wz, rfl, rfl, ht, HBd, HBx⟩ := hrel
          have hgz : gb ≤ Wz.heap.size := by have := HBx.out.size; have := Hgx.out; omega
          have hLt : (globsTo gs k ++ globHead g ++ initTo g t).length ≤ 60000 := by
            have h1 := HLen.out
            have h2 := initTo_len Hix.out t
            simp only [List.length_append]
            omega
          rcases gk with _ | nt
          · obtain rfl : t = il := by omega
            have htn : ¬ (t : Int) < (t : Int) := by omega
            have HWr : Hid (Calls Tryz.prog 45 #[.pointer (some ⟨gb, 0, none⟩), .string { data := #[10] }] Wz fun e w' => e = .returned (.tuple #[.int .i64 (([10] : List UInt8).length : Int), .nilIface]) ∧ BldF gb gb (globsTo gs k ++ globHead g ++ initTo g t ++ [10]) w' ∧ Below gb Wz w' ∧ Lib.OthersKept 5 (some gb) Wz w') := Lib.hid (write_all gb gb _ [10] Wz HBd.out (by simp only [List.length_cons, List.length_nil]; omega) hgz)
            go_wp2_with fail
            refine HWr.out.mono ?_
            rintro e W5 ⟨rfl, hd5, hb5, _⟩
            have HBd5 : Hid (BldF gb gb (globsTo gs (k + 1)) W5) := Lib.hid (by
              rw [Hgs.out]
              unfold globL
              rw [HIL.out]
              simpa [List.append_assoc] using hd5)
            have HBx5 := Lib.hid (HBx.out.trans hb5)
            clear hd5 hb5 HWr HBd HBx
            go_wp2_with fail
            go_roundg nk
            case measure => omega
            case rel => exact ⟨k + 1, _, rfl, by go_num, by omega, HBd5, HBx5⟩
          · have htn : (t : Int) < (il : Int) := by omega
            have ht0 : (0 : Int) ≤ (t : Int) := Int.natCast_nonneg t
            obtain ⟨x, hx⟩ : ∃ x, g.init[t]? = some x := ⟨g.init[t]'(by rw [HIL.out]; omega), List.getElem?_eq_getElem _⟩
            have hxI := Hix.out x (List.mem_of_getElem? hx)
            have Hxs := Lib.hid (initTo_succ hx)
            obtain ⟨ib, ioff, rfl, hib, hic⟩ := Hil.out (by rw [HIL.out]; omega)
            rw [Hw.out] at hib
            have HBwz : Hid (Below B w Wz) := Lib.hid (HB2.out.trans (HBx.out.mono hgw))
            have kx := (bcell HBwz.out hib).trans (hic t x hx)
            have HIt := Lib.hid (Itoa_any x hxI Wz (HP.out.own (by rw [Hw.out]; exact HBwz.out)))
            have hil1 := itoa_len hxI
            have z1 : (mkS (Lib.itoa x)).size ≤ 20 := by rw [mkS_size]; exact hil1
            have q1 : ¬ 1 + (mkS (Lib.itoa x)).size > 9223372036854775807 := by omega
            have e1 : ({ data := #[32] } : ByteArray) ++ mkS (Lib.itoa x) = mkS (32 :: Lib.itoa x) := mkS_append [32] _
            clear hx hic z1
            go_wp2_with fail
            refine HIt.out.mono ?_
            rintro e W5 ⟨rfl, hb5⟩
            have HBd5 := Lib.hid (bld_below HBd.out hb5)
            have HBx5 := Lib.hid (HBx.out.trans (hb5.mono hgz))
            have hg5 : gb ≤ W5.heap.size := Nat.le_trans hgz hb5.size
            have HWr := Lib.hid (write_all gb gb _ (32 :: Lib.itoa x) W5 HBd5.out (by rw [List.length_cons]; omega) hg5)
            clear hb5 HIt HBd HBx HBwz kx
            go_wp2_with fail
            refine HWr.out.mono ?_
            rintro e W6 ⟨rfl, hd6, hb6, _⟩
            have HBd6 : Hid (BldF gb gb (globsTo gs k ++ globHead g ++ initTo g (t + 1)) W6) := Lib.hid (by
              rw [Hxs.out]
              simpa [List.append_assoc] using hd6)
            have HBx6 := Lib.hid (HBx5.out.trans hb6)
            clear hd6 hb6 HWr HBd5 HBx5 e1 q1
            go_wp2_with fail
            go_roundg nt
            case measure => omega
            case rel => exact ⟨t + 1, _, rfl, by go_num, by omega, HBd6, HBx6⟩
  · have hub : (uc == 0) = false := by simpa using h0
    have HE : Hid (apartF gs rs = []) := Lib.hid (by unfold apartF; rw [if_neg (by rw [Hun.out]; exact h0)])
    clear h0
    go_wp2_with fail
    go_region
    all_goals
      go_wp2_with fail
      refine end_tmp_cell rfl rfl (HX2.out.set2 (.int .i64 uc) (.int .i64 ua)) Tryz.underlying24 rfl (by kernel_rfl) rfl ⟨by rw [HE.out]; rfl, ?_⟩
      rw [Hw.out]
      exact below_drew0 ((HB2.out.setCell (Nat.le_succ _) _).setCell (Nat.le_succ _) _)
end Go.Proofs.YtdldochhondifaaGreatDoor
