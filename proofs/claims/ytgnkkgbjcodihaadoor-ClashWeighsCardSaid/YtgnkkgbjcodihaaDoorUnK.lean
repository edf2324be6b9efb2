/-
  What other seats' texts hold and units need: memory, appends, names, globals, numbers told apart (conditions: none).
-/
import Derived.Test.YtgnkkgbjcodihaaDoorBase
import Derived.OwnWalk
import Derived.Maps.AppendAt
import Derived.RegionTactic
import Derived.Conc.MuLone
import Derived.Deep.QuietTactic
import Derived.BigQuiet
namespace Go.Proofs.YtgnkkgbjcodihaaDoor
open Go.RowKit

theorem ret_agg2 {a b a' b' : Int} (h : (a', b') = (a, b)) : Ending.returned (.agg #[.int .i64 a, .int .i64 b]) = .returned (.agg #[.int .i64 a', .int .i64 b']) := by
  injection h with h1 h2; rw [h1, h2]

theorem infoInt : (Tryd.prog.info? 3).map (fun i => (i.zero, i.size, i.bytes)) = some (some (.int .i64 0), 1, 8) := by kernel_rfl
/-- The call owns the slice v, which reads as xs. -/
def OwnInts (w : World) (base : Nat) (v : Value) (xs : List Int) : Prop := w.ownsRow base 3 1 v xs.length (xs.map (Value.int .i64))
theorem OwnInts.nil (w : World) (base : Nat) : OwnInts w base (.slice none 0 0) [] := World.ownsRow_nil w base 3 1
theorem OwnInts.ints {w : World} {base : Nat} {v : Value} {xs : List Int} (h : OwnInts w base v xs) : IntsAt w w.heap.size v xs := by
  have hc := fun {g : Nat} (hg : v.ownBlock = some g) => World.ownsRow.cells h hg
  rcases h.2 with ⟨rfl, hn⟩ | ⟨g, cap, cur, rfl, _, hgg, hnc, hcm, _, _⟩
  · exact ⟨none, 0, by rw [hn], by omega, by omega, fun h => by omega⟩
  · refine ⟨some ⟨g, 0, none⟩, cap, rfl, hnc, by unfold maxLen at hcm; omega, fun _ => ⟨g, 0, rfl, ?_, fun k x hk => ?_⟩⟩
    · rcases Nat.lt_or_ge g w.heap.size with h | h
      · exact h
      · rw [Array.getElem?_eq_none h] at hgg; cases hgg
    · have := hc (g := g) rfl k (.int .i64 x) (by rw [List.getElem?_map, hk]; rfl)
      rw [← this]
      unfold Addr.add
      split <;> simp_all
theorem OwnInts.below {w w' : World} {base B : Nat} {v : Value} {xs : List Int} (h : OwnInts w base v xs) (hb : Below B w w') (hB : B = w.heap.size) : OwnInts w' base v xs := by
  refine World.ownsRow.kept (row := none) h ⟨hb.os, hb.tape, hb.output, hb.size, fun k hk _ => hb.block k (by omega)⟩ ?_
  cases v.ownBlock <;> simp
theorem own_block_ge {w : World} {base : Nat} {e : TypeId} {size n : Nat} {v : Value} {xs : List Value} (h : w.ownsRow base e size v n xs) : ∀ k, v.ownBlock = some k → base ≤ k := by
  intro k hk
  rcases h.2 with ⟨rfl, _⟩ | ⟨g, cap, cur, rfl, hb, _⟩
  · simp [Value.ownBlock] at hk
  · simp [Value.ownBlock] at hk
    omega
/-
  Several texts in one (KitC ByK KitD): what each proves stands at its theorems.
  Conditions: as the theorems say.
-/

theorem grown_below {w w' : World} {base : Nat} {row : Option Nat} (hg : w.grownBy w' row) (hb : base ≤ w.heap.size) (hr : ∀ k, row = some k → base ≤ k) : Below base w w' :=
  (Below.refl _ _).grown hg hb hr
theorem grown_of_alloc {w w' : World} {o : Obj} {row : Option Nat} (hg : (w.alloc o).grownBy w' row) : w.grownBy w' row :=
  ⟨hg.os, hg.tape, hg.output, Nat.le_trans (by simp) hg.size, fun i hi hne => (hg.block i (by simp; omega) hne).trans (Below.heap_alloc w o i hi)⟩
theorem add_zero_addr (a : Addr) : a.add 0 = a := by unfold Addr.add; simp
/-- What an append leaves: the slice owns the longer list; old memory stands; only the slice's own block was written. -/
def Appended (w : World) (base : Nat) (e : TypeId) (size : Nat) (v : Value) (n : Nat) (xs : List Value) (H : Nat) (v' : Value) (w' : World) : Prop :=
  w'.ownsRow base e size v' n xs ∧ Below base w w' ∧ w.grownBy w' v.ownBlock ∧ (v'.ownBlock = v.ownBlock ∨ v'.ownBlock = some H)
section
variable {P : Program}
theorem run_app_nil (w : World) (base : Nat) (t ty e : TypeId) (i : TypeInfo) (size : Nat) (ht : P.underlying t = some (.slice e)) (hi : P.info? e = some i)
    (v : Value) (n : Nat) (xs : List Value) (hown : w.ownsRow base e size v n xs) (c : Nat) : (Builtin.append_ #[t, t] ty #[v, .slice none 0 c]).run P w = .ok v w := by
  rcases hown.2 with ⟨rfl, rfl⟩ | ⟨g, cap, cur, rfl, _, _, hnc, _⟩
  · simp [Builtin.append_, run_underlying ht, sizeOf, typeInfo, hi, Builtin.lenOf, Builtin.firstCells]
  · simp [Builtin.append_, run_underlying ht, sizeOf, typeInfo, hi, Builtin.lenOf, Builtin.firstCells, hnc, storeCells]
/-- append(v, x...), x whatever slice. -/
theorem app_src {w : World} {ops : Array Oper} {rest : List Oper} {o : Oper} {a : Act} {Q : Exit → Act → World → Prop} (hgd : o.guard = none) (s x : Operand) (t e : TypeId)
    (ho : o.op = .call { callee := .builtin .append, args := #[s, x], argTypes := #[t, t] })
    (z : Value) (size bytes : Nat) (ht : P.underlying t = some (.slice e)) (hinfo : (P.info? e).map (fun i => (i.zero, i.size, i.bytes)) = some (some z, size, bytes)) (hzs : z.cells.size = size) (hsz : 0 < size) (hby : bytes ≤ 10000)
    (base : Nat) (v : Value) (n : Nat) (xs : List Value) (hs : a.eval s = v) (hown : w.ownsRow base e size v n xs)
    (A : Option Addr) (m c : Nat) (news : List Value) (hx : a.eval x = .slice A m c) (hl : news.length = m * size) (hnews : 0 < m → ∃ ad, A = some ad ∧ ∀ j u, news[j]? = some u → w.cell? (ad.add j) = some u) (h1 : ∀ u ∈ news, u.oneCell' = true)
    (hlen : n + m ≤ 4000000000) (hbase : base ≤ w.heap.size) (H : Nat) (hH : w.heap.size = H)
    (h : ∀ v' w', Hid (Appended w base e size v (n + m) (xs ++ news) H v' w') → wpList P ops Q rest (a.put o.dst v') w') : wpList P ops Q (o :: rest) a w := by
  obtain ⟨i, hi, hz, hsize, hbytes⟩ := info_parts hinfo
  subst hH
  have key : ∃ v' w', (Builtin.append_ #[t, t] o.type #[v, .slice A m c]).run P w = .ok v' w' ∧ Appended w base e size v (n + m) (xs ++ news) w.heap.size v' w' := by
    have some_case : ∀ ad : Addr, A = some ad → (∀ j u, news[j]? = some u → w.cell? (ad.add j) = some u) → ∃ v' w', (Builtin.append_ #[t, t] o.type #[v, .slice A m c]).run P w = .ok v' w' ∧ Appended w base e size v (n + m) (xs ++ news) w.heap.size v' w' := by
      intro ad hA hc
      subst hA
      have hmul : (n + m) * bytes ≤ 140737488355328 := Nat.le_trans (Nat.mul_le_mul hlen hby) (by decide)
      obtain ⟨v', w', hrun, h2, h3, _, h5⟩ := run_append_own_at (P := P) w base t o.type e i z size bytes ht hi hz hsize hbytes hzs hsz v n xs hown ad m c news hl hc h1 (by unfold maxLen; omega) hmul hbase
      exact ⟨v', w', hrun, h2, grown_below h3 hbase (own_block_ge hown), h3, h5⟩
    rcases A with _ | ad
    · have hm : m = 0 := by
        rcases Nat.eq_zero_or_pos m with h0 | h0
        · exact h0
        · obtain ⟨ad, h, _⟩ := hnews h0
          cases h
      subst hm
      have hn : news = [] := List.eq_nil_of_length_eq_zero (by simpa using hl)
      subst hn
      exact ⟨v, w, run_app_nil w base t _ e i size ht hi v n xs hown c, by simpa using hown, Below.refl _ _, World.grownBy.refl w _, .inl rfl⟩
    · refine some_case ad rfl ?_
      intro j u hu
      rcases Nat.eq_zero_or_pos m with h0 | h0
      · subst h0
        have hn : news = [] := List.eq_nil_of_length_eq_zero (by simpa using hl)
        subst hn
        simp at hu
      · obtain ⟨ad', h, hc⟩ := hnews h0
        injection h with h
        subst h
        exact hc j u hu
  obtain ⟨v', w', hrun, hap⟩ := key
  refine wpList_plain hgd fun K hK => ?_
  unfold Oper.wp execOp
  simp only [ho, resolve, invoke, builtin, Sem.run_bind, Sem.run_pure, Result.andThen_ok, List.map_toArray, List.map_cons, List.map_nil, hs, hx, hrun]
  exact hK _ _ (h v' w' (Lib.hid hap))
theorem cells_new (w : World) (news : List Value) (t : TypeId) (H : Nat) (hH : w.heap.size = H) : ∀ j u, news[j]? = some u → (w.alloc (.cells news.toArray t)).cell? ((⟨H, 0, none⟩ : Addr).add j) = some u := by
  intro j u hj
  subst hH
  have e : (⟨w.heap.size, 0, none⟩ : Addr).add j = ⟨w.heap.size, j, none⟩ := by
    unfold Addr.add
    split
    · simp_all
    · simp
  rw [e, cell_of_row _ _ j _ t (0, 0) (heap_alloc_new w _)]
  simpa using hj
/-- append(v, x) of one element, that the walk has just laid into a block of its own. -/
theorem app_one {w : World} {ops : Array Oper} {rest : List Oper} {o : Oper} {a : Act} {Q : Exit → Act → World → Prop} (hgd : o.guard = none) (s x : Operand) (t e : TypeId)
    (ho : o.op = .call { callee := .builtin .append, args := #[s, x], argTypes := #[t, t] })
    (z : Value) (size bytes : Nat) (ht : P.underlying t = some (.slice e)) (hinfo : (P.info? e).map (fun i => (i.zero, i.size, i.bytes)) = some (some z, size, bytes)) (hzs : z.cells.size = size) (hsz : 0 < size) (hby : bytes ≤ 10000)
    (base : Nat) (v : Value) (n : Nat) (xs : List Value) (hs : a.eval s = v) (hown : w.ownsRow base e size v n xs)
    (H : Nat) (news : List Value) (hx : a.eval x = .slice (some ⟨H, 0, none⟩) 1 1) (hl : news.length = size) (h1 : ∀ u ∈ news, u.oneCell' = true) (hH : w.heap.size = H)
    (hlen : n ≤ 3000000000) (hbase : base ≤ w.heap.size)
    (h : ∀ v' w', Hid (Appended w base e size v (n + 1) (xs ++ news) (H + 1) v' w') → wpList P ops Q rest (a.put o.dst v') w') : wpList P ops Q (o :: rest) a (w.alloc (.cells news.toArray e)) := by
  refine app_src hgd s x t e ho z size bytes ht hinfo hzs hsz hby base v n xs hs (hown.alloc _) (some ⟨H, 0, none⟩) 1 1 news hx (by omega) (fun _ => ⟨_, rfl, cells_new w news e H hH⟩) h1 (by omega) (by simp; omega) (H + 1) (by simp [hH]) ?_
  intro v' w' hap
  obtain ⟨a1, a2, a3, a4⟩ := hap.out
  have hg := grown_of_alloc a3
  exact h v' w' (Lib.hid ⟨a1, grown_below hg hbase (own_block_ge hown), hg, a4⟩)
end
theorem Appended.own {w w' : World} {base : Nat} {e : TypeId} {size : Nat} {v v' : Value} {n : Nat} {xs : List Value} {H : Nat} (h : Appended w base e size v n xs H v' w') : w'.ownsRow base e size v' n xs := h.1
theorem Appended.below {w w' : World} {base : Nat} {e : TypeId} {size : Nat} {v v' : Value} {n : Nat} {xs : List Value} {H : Nat} (h : Appended w base e size v n xs H v' w') : Below base w w' := h.2.1
/-- A block of another element type than the written row's stands. -/
theorem grown_blk {w w' : World} {base : Nat} {e : TypeId} {size : Nat} {v : Value} {n0 : Nat} {xs0 : List Value} (hg : w.grownBy w' v.ownBlock) (ho : w.ownsRow base e size v n0 xs0)
    {g : Nat} {t : TypeId} {cs : Array Value} (hb : Blk w g t cs) (hne : e ≠ t) : Blk w' g t cs := by
  refine (hg.block g hb.lt ?_).trans hb
  rcases ho.2 with ⟨rfl, _⟩ | ⟨g', cap, cur, rfl, _, hh, _⟩
  · simp [Value.ownBlock]
  · simp only [Value.ownBlock]
    intro he
    cases he
    unfold Blk at hb
    rw [hh] at hb
    cases hb
    exact hne rfl
/-- A block of another element type than the row's stands. -/
theorem Appended.blk {w w' : World} {base : Nat} {e : TypeId} {size : Nat} {v v' : Value} {n : Nat} {xs : List Value} {H : Nat} (h : Appended w base e size v n xs H v' w') {n0 : Nat} {xs0 : List Value} (ho : w.ownsRow base e size v n0 xs0)
    {g : Nat} {t : TypeId} {cs : Array Value} (hb : Blk w g t cs) (hne : e ≠ t) : Blk w' g t cs := by
  refine (h.2.2.1.block g hb.lt ?_).trans hb
  rcases ho.2 with ⟨rfl, _⟩ | ⟨g', cap, cur, rfl, _, hh, _⟩
  · simp [Value.ownBlock]
  · simp only [Value.ownBlock]
    intro he
    cases he
    unfold Blk at hb
    rw [hh] at hb
    cases hb
    exact hne rfl
/-- A row in another block stands. -/
theorem Appended.row {w w' : World} {base : Nat} {e : TypeId} {size : Nat} {v v' : Value} {n : Nat} {xs : List Value} {H : Nat} (h : Appended w base e size v n xs H v' w') {base0 : Nat} {e0 : TypeId} {size0 n0 : Nat} {v0 : Value} {xs0 : List Value}
    (ho : w.ownsRow base0 e0 size0 v0 n0 xs0) (hne : ∀ k, v0.ownBlock = some k → v.ownBlock ≠ some k) : w'.ownsRow base0 e0 size0 v0 n0 xs0 := by
  refine World.ownsRow.kept ho h.2.2.1 ?_
  cases hv : v0.ownBlock with
  | none => exact .inl rfl
  | some k => exact .inr fun he => hne k hv he.symm
/-
  Several texts in one (MacI MacJ): what each proves stands at its theorems.
  Conditions: as the theorems say.
-/

theorem below_drewN {B : Nat} {a w : World} (h : Below B a w) (n : Nat) : Below B a (w.drewN n) := ⟨h.os, h.tape, h.output, h.size, h.block⟩
theorem ints_nil (w : World) (B : Nat) : IntsAt w B (.slice none 0 0) [] := ⟨none, 0, rfl, by simp, by omega, fun h => by simp at h⟩
theorem OwnInts.set {w : World} {base : Nat} {v : Value} {xs : List Int} (h : OwnInts w base v xs) {b o : Nat} (hb : b < base) (u : Value) : OwnInts (w.setCell ⟨b, o, none⟩ u) base v xs :=
  ownsRow_setCell_below (a := ⟨b, o, none⟩) h hb u

set_option maxRecDepth 100000 in
set_option maxHeartbeats 1000000 in
theorem Ints_any (v1 v2 : Value) (xs ys : List Int) (w : World) (h1 : IntsAt w w.heap.size v1 xs) (h2 : IntsAt w w.heap.size v2 ys) :
    Calls Tryd.prog 13 #[v1, v2] w fun e w' => e = .returned (.bool (decide (xs = ys))) ∧ Below w.heap.size w w' := by
  obtain ⟨A, c, rfl, k1, k2, k3⟩ := h1
  obtain ⟨B, d, rfl, l1, l2, l3⟩ := h2
  by_cases hne : xs.length = ys.length
  · have hb : ((xs.length : Int) != (ys.length : Int)) = false := by simp [hne]
    have HX := Lib.hid k3
    have HY := Lib.hid l3
    obtain ⟨len, hlen⟩ : ∃ len, xs.length = len := ⟨_, rfl⟩
    have hlen' : ys.length = len := by omega
    have HN := Lib.hid (And.intro hlen hlen')
    rw [hlen] at k1 hb ⊢
    rw [hlen'] at l1 hb ⊢
    clear k3 l3 hne hlen hlen'
    go_enter Tryd.func13, Tryd.ntmps13
    go_wp2
    go_loopw [5] (fun i wr => ∃ k : Nat, k ≤ len ∧ i = .int .i64 k ∧ Hid (∀ j : Nat, j < k → xs[j]? = ys[j]?) ∧ Below w.heap.size w wr) (fun i _ => len - (intOf i).toNat)
    case atStart => exact ⟨0, Nat.zero_le _, rfl, Lib.hid (fun j h => absurd h (Nat.not_lt_zero j)), Below.refl _ _⟩
    case round =>
      obtain ⟨k, hk, rfl, HF, hb1⟩ := hrel
      by_cases hlt : k < len
      · obtain ⟨bx, ox, rfl, hbx, hcx⟩ := HX.out (by rw [HN.out.1]; omega)
        obtain ⟨by', oy, rfl, hby, hcy⟩ := HY.out (by rw [HN.out.2]; omega)
        obtain ⟨x, hx⟩ : ∃ x, xs[k]? = some x := ⟨xs[k]'(by rw [HN.out.1]; exact hlt), List.getElem?_eq_getElem _⟩
        obtain ⟨y, hy⟩ : ∃ y, ys[k]? = some y := ⟨ys[k]'(by rw [HN.out.2]; exact hlt), List.getElem?_eq_getElem _⟩
        have cx : wr.cell? ⟨bx, ox + k, none⟩ = some (.int .i64 x) := (bcell hb1 hbx).trans (hcx k x hx)
        have cy : wr.cell? ⟨by', oy + k, none⟩ = some (.int .i64 y) := (bcell hb1 hby).trans (hcy k y hy)
        have hk0 : (0 : Int) ≤ (k : Int) := Int.natCast_nonneg k
        have hk1 : (k : Int) < (len : Int) := by omega
        have HB := Lib.hid hb1
        have Hxy := Lib.hid (And.intro hx hy)
        clear hb1 hx hy hcx hcy
        by_cases he : x = y
        · have ht : (x != y) = false := by simp [he]
          have He := Lib.hid he
          clear he
          go_wp2
          go_quiet (fail)
          go_wp2
          go_roundw
          case rel =>
            refine ⟨k + 1, by omega, by go_num, Lib.hid fun j hj => ?_, below_drewN HB.out _⟩
            rcases Nat.lt_or_ge j k with h | h
            · exact HF.out j h
            · obtain rfl : j = k := by omega
              rw [Hxy.out.1, Hxy.out.2, He.out]
          case measure => simp [intOf]; omega
        · have ht : (x != y) = true := by simp [he]
          have He := Lib.hid he
          clear he
          go_wp2
          go_quiet (fail)
          go_wp2
          go_ret
          refine ⟨ret_bool (by symm; apply decide_eq_false; intro h; apply He.out; have := Hxy.out.1; rw [h, Hxy.out.2] at this; cases this; rfl), below_drewN HB.out _⟩
      · obtain rfl : k = len := by omega
        go_wp2
        go_ret
        refine ⟨ret_bool (by symm; apply decide_eq_true; apply List.ext_getElem?; intro j; rcases Nat.lt_or_ge j k with h | h; exact HF.out j h; rw [List.getElem?_eq_none (by rw [HN.out.1]; exact h), List.getElem?_eq_none (by rw [HN.out.2]; exact h)]), hb1⟩
  · have hb : ((xs.length : Int) != (ys.length : Int)) = true := by simp; omega
    go_enter Tryd.func13, Tryd.ntmps13
    go_wp2
    go_ret
    exact ⟨ret_bool (by symm; apply decide_eq_false; intro h; apply hne; rw [h]), Below.refl _ _⟩
/-
  Several texts in one (McA McB McC McD): what each proves stands at its theorems.
  Conditions: as the theorems say.
-/

/-- May a letter stand at a place of a name? -/
def okB (k : Nat) (x : Int) : Bool := decide ((97 ≤ x ∧ x ≤ 122) ∨ (65 ≤ x ∧ x ≤ 90) ∨ x = 95 ∨ (0 < k ∧ 48 ≤ x ∧ x ≤ 57))
/-- May a text be a name? -/
def nameS (s : ByteArray) : Bool := decide (1 ≤ s.size ∧ s.size ≤ 12) && (List.range s.size).all fun k => okB k ((s.data.toList.getD k 0).toNat : Int)
theorem byte_getD (s : ByteArray) (k : Nat) (h : k < s.size) : s.data.toList.getD k 0 = s[k] := by
  rw [List.getD_eq_getElem?_getD, List.getElem?_eq_getElem (by simpa using h)]
  rfl
theorem name_yes (s : ByteArray) (h1 : 1 ≤ s.size) (h2 : s.size ≤ 12) (h : ∀ (j : Nat) (hj : j < s.size), okB j (s[j].toNat : Int) = true) : nameS s = true := by
  unfold nameS
  rw [Bool.and_eq_true, decide_eq_true_eq, List.all_eq_true]
  refine ⟨⟨h1, h2⟩, fun k hk => ?_⟩
  have hk' : k < s.size := by simpa using hk
  rw [byte_getD s k hk']
  exact h k hk'
theorem name_size (s : ByteArray) (h : s.size < 1 ∨ 12 < s.size) : nameS s = false := by
  unfold nameS
  rw [Bool.and_eq_false_iff]
  left
  rw [decide_eq_false_iff_not]
  omega
theorem name_no (s : ByteArray) (k : Nat) (hk : k < s.size) (h : okB k (s[k].toNat : Int) = false) : nameS s = false := by
  unfold nameS
  rw [Bool.and_eq_false_iff]
  right
  rw [List.all_eq_false]
  refine ⟨k, by simpa using hk, ?_⟩
  rw [byte_getD s k hk, h]
  simp
set_option maxHeartbeats 2000000 in
theorem Name_any (s : ByteArray) (w : World) (hs : s.size ≤ 9223372036854775807) : Calls Tryd.prog 56 #[.string s] w fun e w' => e = .returned (.bool (nameS s)) ∧ w = w' := by
  by_cases hz : s.size < 1 ∨ 12 < s.size
  · have HN := Lib.hid (name_size s hz)
    rcases hz with hz | hz
    all_goals
      go_enter Tryd.func56, Tryd.ntmps56
      go_wp2_with fail
      go_ret
      exact ⟨ret_bool HN.out.symm, rfl⟩
  · have h1 : 1 ≤ s.size := by omega
    have h2 : s.size ≤ 12 := by omega
    clear hz
    go_enter Tryd.func56, Tryd.ntmps56
    go_wp2_with fail
    go_loop [15] (fun i => ∃ k : Nat, k ≤ s.size ∧ i = .int .i64 k ∧ Hid (∀ (j : Nat) (hj : j < s.size), j < k → okB j (s[j].toNat : Int) = true)) (fun i => s.size - (intOf i).toNat)
    case atStart => exact ⟨0, Nat.zero_le _, rfl, Lib.hid (fun j _ h => absurd h (Nat.not_lt_zero j))⟩
    case round =>
      obtain ⟨k, hk, rfl, H⟩ := hrel
      by_cases hlt : k < s.size
      · have hx0 : (0 : Int) ≤ (s[k].toNat : Int) := by omega
        rcases (by omega : ((s[k].toNat : Int) < 48) ∨ (48 ≤ (s[k].toNat : Int) ∧ (s[k].toNat : Int) ≤ 57) ∨ (58 ≤ (s[k].toNat : Int) ∧ (s[k].toNat : Int) ≤ 64) ∨ (65 ≤ (s[k].toNat : Int) ∧ (s[k].toNat : Int) ≤ 90) ∨ (91 ≤ (s[k].toNat : Int) ∧ (s[k].toNat : Int) ≤ 94) ∨ (95 ≤ (s[k].toNat : Int) ∧ (s[k].toNat : Int) ≤ 95) ∨ (96 ≤ (s[k].toNat : Int) ∧ (s[k].toNat : Int) ≤ 96) ∨ (97 ≤ (s[k].toNat : Int) ∧ (s[k].toNat : Int) ≤ 122) ∨ (123 ≤ (s[k].toNat : Int))) with a1 | ⟨a1, a2⟩ | ⟨a1, a2⟩ | ⟨a1, a2⟩ | ⟨a1, a2⟩ | ⟨a1, a2⟩ | ⟨a1, a2⟩ | ⟨a1, a2⟩ | a1
        all_goals
          first | (have hb : ((s[k].toNat : Int) == 95) = true := by simp; omega) | (have hb : ((s[k].toNat : Int) == 95) = false := by simp; omega)
          by_cases h0 : k = 0
          all_goals
            first | (have hb0 : ((k : Int) == 0) = true := by simp [h0]) | (have hb0 : ((k : Int) == 0) = false := by simp [h0])
            first | (have hk0 : 0 < k := by omega) | (have hk0 : k < 1 := by omega)
            clear h0
            go_wp2_with fail
            all_goals first
              | (go_round
                 case rel =>
                   refine ⟨k + 1, by omega, by go_num, Lib.hid fun j hj hjk => ?_⟩
                   rcases Nat.lt_or_ge j k with h | h
                   · exact H.out j hj h
                   · obtain rfl : j = k := by omega
                     unfold okB
                     rw [decide_eq_true_eq]
                     omega
                 case measure => simp [intOf]; omega)
              | (go_ret
                 refine ⟨ret_bool (name_no s k hlt ?_).symm, rfl⟩
                 unfold okB
                 rw [decide_eq_false_iff_not]
                 omega)
              | (exfalso
                 simp only [Bool.not_eq_false', decide_eq_true_eq] at *
                 omega)
      · have HN := Lib.hid (name_yes s h1 h2 fun j hj => H.out j hj (by omega))
        go_wp2_with fail
        go_ret
        exact ⟨ret_bool HN.out.symm, rfl⟩
theorem Within_any (n lo hi : Int) (w : World) : Calls Tryd.prog 44 #[.int .i64 n, .int .i64 lo, .int .i64 hi] w fun e w' => e = .returned (.bool (decide (lo ≤ n ∧ n ≤ hi))) ∧ w = w' := by
  by_cases h1 : lo ≤ n
  · by_cases h2 : n ≤ hi
    · go_enter Tryd.func44, Tryd.ntmps44
      go_wp2_with fail
      go_ret
      exact ⟨ret_bool (by simp; omega), rfl⟩
    · go_enter Tryd.func44, Tryd.ntmps44
      go_wp2_with fail
      go_ret
      exact ⟨ret_bool (by simp; omega), rfl⟩
  · go_enter Tryd.func44, Tryd.ntmps44
    go_wp2_with fail
    go_ret
    exact ⟨ret_bool (by simp; omega), rfl⟩

structure Glob where
  name : ByteArray
  size : Int
  init : List Int
/-- The slice value v reads as the globals gs, below block B. -/
def GlobsAt (w : World) (B : Nat) (v : Value) (gs : List Glob) : Prop :=
  ∃ (A : Option Addr) (c : Nat), v = .slice A gs.length c ∧ gs.length ≤ c ∧ c ≤ 9223372036854775807 ∧
    (0 < gs.length → ∃ b off, A = some ⟨b, off, none⟩ ∧ b < B ∧ ∀ (k : Nat) (g : Glob), gs[k]? = some g → ∃ iv,
      w.cell? ⟨b, off + k * 3, none⟩ = some (.string g.name) ∧ w.cell? ⟨b, off + k * 3 + 1, none⟩ = some (.int .i64 g.size) ∧ w.cell? ⟨b, off + k * 3 + 2, none⟩ = some iv ∧ IntsAt w B iv g.init)
theorem GlobsAt.below {W w1 : World} {B B' : Nat} {v : Value} {gs : List Glob} (h : GlobsAt W B v gs) (hb : Below B' W w1) (hB : B ≤ B') : GlobsAt w1 B v gs := by
  obtain ⟨A, c, e, h1, h2, h3⟩ := h
  refine ⟨A, c, e, h1, h2, fun hl => ?_⟩
  obtain ⟨b, off, e1, e2, e3⟩ := h3 hl
  refine ⟨b, off, e1, e2, fun k g hk => ?_⟩
  obtain ⟨iv, c0, c1, c2, hi⟩ := e3 k g hk
  have hbl : b < B' := by omega
  exact ⟨iv, (bcell hb hbl).trans c0, (bcell hb hbl).trans c1, (bcell hb hbl).trans c2, hi.below hb hB⟩
theorem GlobsAt.more {w : World} {B B' : Nat} {v : Value} {gs : List Glob} (h : GlobsAt w B v gs) (hB : B ≤ B') : GlobsAt w B' v gs := by
  obtain ⟨A, c, e, h1, h2, h3⟩ := h
  refine ⟨A, c, e, h1, h2, fun hl => ?_⟩
  obtain ⟨b, off, e1, e2, e3⟩ := h3 hl
  refine ⟨b, off, e1, by omega, fun k g hk => ?_⟩
  obtain ⟨iv, c0, c1, c2, hi⟩ := e3 k g hk
  exact ⟨iv, c0, c1, c2, hi.more hB⟩
/-- The first place at which p holds; -1: at none. -/
def firstS {α : Type} (p : α → Bool) (l : List α) : Int := match l.findIdx? p with
  | some i => i
  | none => -1
theorem firstS_hit {α : Type} {p : α → Bool} {l : List α} {k : Nat} {x : α} (hk : l[k]? = some x) (hx : p x = true) (h : ∀ (j : Nat) (y : α), j < k → l[j]? = some y → p y = false) : firstS p l = k := by
  have hlt := (List.getElem?_eq_some_iff.1 hk).1
  have : l.findIdx? p = some k := by
    rw [List.findIdx?_eq_some_iff_getElem]
    refine ⟨hlt, ?_, fun j hj => ?_⟩
    · rw [(List.getElem?_eq_some_iff.1 hk).2]; exact hx
    · have := h j l[j] hj (List.getElem?_eq_getElem (by omega))
      simp [this]
  unfold firstS
  rw [this]
theorem firstS_none {α : Type} {p : α → Bool} {l : List α} (h : ∀ (j : Nat) (y : α), l[j]? = some y → p y = false) : firstS p l = -1 := by
  have : l.findIdx? p = none := by
    rw [List.findIdx?_eq_none_iff]
    intro x hx
    obtain ⟨j, hj⟩ := List.mem_iff_getElem?.1 hx
    exact h j x hj
  unfold firstS
  rw [this]
theorem firstS_any {α : Type} (p : α → Bool) (l : List α) : decide (0 ≤ firstS p l) = l.any p := by
  unfold firstS
  cases h : l.findIdx? p with
  | none =>
    rw [List.findIdx?_eq_none_iff] at h
    have : l.any p = false := by rw [List.any_eq_false]; intro x hx; rw [h x hx]; simp
    rw [this]
    rfl
  | some i =>
    rw [List.findIdx?_eq_some_iff_getElem] at h
    obtain ⟨hlt, hp, _⟩ := h
    have : l.any p = true := by rw [List.any_eq_true]; exact ⟨l[i], List.getElem_mem hlt, hp⟩
    rw [this, decide_eq_true_eq]
    simp

def sumG (gs : List Glob) : Int := (gs.map fun g => g.size).foldl (· + ·) 0
theorem sumG_snoc (gs : List Glob) (k : Nat) (g : Glob) (h : gs[k]? = some g) : sumG (gs.take (k + 1)) = sumG (gs.take k) + g.size := by
  unfold sumG
  have hlt := (List.getElem?_eq_some_iff.1 h).1
  rw [List.take_succ_eq_append_getElem hlt, (List.getElem?_eq_some_iff.1 h).2, List.map_append, List.foldl_append]
  rfl
/-- What is wrong with a global, those ahead of it given. -/
def gBad (pre : List Glob) (g : Glob) : Int :=
  if nameS g.name = false then 12 else if (pre.any fun h => h.name.toList == g.name.toList) = true then 7 else if ¬ (1 ≤ g.size ∧ g.size ≤ 200) then 3
  else if g.size < (g.init.length : Int) then 9 else if 200 < sumG pre + g.size then 10 else 0
def gBadAt (gs : List Glob) (k : Nat) : Int := match gs[k]? with
  | some g => gBad (gs.take k) g
  | none => 0
/-- The first fault of a row of places. -/
def firstBad (bad : Nat → Int) (n : Nat) : Int × Int := match (List.range n).find? (fun i => bad i != 0) with
  | some i => (bad i, (i : Int))
  | none => (0, 0)
theorem firstBad_hit {bad : Nat → Int} {n k : Nat} (hk : k < n) (h : bad k ≠ 0) (hb : ∀ j, j < k → bad j = 0) : firstBad bad n = (bad k, (k : Int)) := by
  have : (List.range n).find? (fun i => bad i != 0) = some k := by
    rw [List.find?_eq_some_iff_getElem]
    refine ⟨by simpa using h, k, by simpa using hk, by simp, fun j hj => ?_⟩
    simp [hb j hj]
  unfold firstBad
  rw [this]
theorem firstBad_ok {bad : Nat → Int} {n : Nat} (hb : ∀ j, j < n → bad j = 0) : firstBad bad n = (0, 0) := by
  have : (List.range n).find? (fun i => bad i != 0) = none := by
    rw [List.find?_eq_none]
    intro j hj
    simp [hb j (by simpa using hj)]
  unfold firstBad
  rw [this]
def globF (gs : List Glob) : Int × Int := if 10 < gs.length then (2, 0) else firstBad (gBadAt gs) gs.length
theorem globF_hit {gs : List Glob} {k : Nat} {g : Glob} (hl : gs.length ≤ 10) (hk : gs[k]? = some g) (h : gBad (gs.take k) g ≠ 0) (hb : ∀ j, j < k → gBadAt gs j = 0) : globF gs = (gBad (gs.take k) g, (k : Int)) := by
  have e : gBadAt gs k = gBad (gs.take k) g := by unfold gBadAt; rw [hk]
  unfold globF
  rw [if_neg (by omega), firstBad_hit (List.getElem?_eq_some_iff.1 hk).1 (by rw [e]; exact h) hb, e]
theorem globF_ok {gs : List Glob} (hl : gs.length ≤ 10) (hb : ∀ j, j < gs.length → gBadAt gs j = 0) : globF gs = (0, 0) := by
  unfold globF
  rw [if_neg (by omega), firstBad_ok hb]
theorem gBad_name {pre : List Glob} {g : Glob} (h : nameS g.name = false) : gBad pre g = 12 := by unfold gBad; rw [if_pos h]
theorem gBad_had {pre : List Glob} {g : Glob} (h : nameS g.name = true) (h2 : (pre.any fun h => h.name.toList == g.name.toList) = true) : gBad pre g = 7 := by unfold gBad; rw [if_neg (by rw [h]; simp), if_pos h2]
theorem gBad_range {pre : List Glob} {g : Glob} (h : nameS g.name = true) (h2 : (pre.any fun h => h.name.toList == g.name.toList) = false) (h3 : ¬ (1 ≤ g.size ∧ g.size ≤ 200)) : gBad pre g = 3 := by
  unfold gBad; rw [if_neg (by rw [h]; simp), if_neg (by rw [h2]; simp), if_pos h3]
theorem gBad_size {pre : List Glob} {g : Glob} (h : nameS g.name = true) (h2 : (pre.any fun h => h.name.toList == g.name.toList) = false) (h3 : 1 ≤ g.size ∧ g.size ≤ 200) (h4 : g.size < (g.init.length : Int)) : gBad pre g = 9 := by
  unfold gBad; rw [if_neg (by rw [h]; simp), if_neg (by rw [h2]; simp), if_neg (by simpa using h3), if_pos h4]
theorem gBad_much {pre : List Glob} {g : Glob} (h : nameS g.name = true) (h2 : (pre.any fun h => h.name.toList == g.name.toList) = false) (h3 : 1 ≤ g.size ∧ g.size ≤ 200) (h4 : ¬ g.size < (g.init.length : Int)) (h5 : 200 < sumG pre + g.size) : gBad pre g = 10 := by
  unfold gBad; rw [if_neg (by rw [h]; simp), if_neg (by rw [h2]; simp), if_neg (by simpa using h3), if_neg h4, if_pos h5]
theorem gBad_ok {pre : List Glob} {g : Glob} (h : nameS g.name = true) (h2 : (pre.any fun h => h.name.toList == g.name.toList) = false) (h3 : 1 ≤ g.size ∧ g.size ≤ 200) (h4 : ¬ g.size < (g.init.length : Int)) (h5 : ¬ 200 < sumG pre + g.size) : gBad pre g = 0 := by
  unfold gBad; rw [if_neg (by rw [h]; simp), if_neg (by rw [h2]; simp), if_neg (by simpa using h3), if_neg h4, if_neg h5]
theorem GlobsAt.take {w : World} {B len c : Nat} {A : Option Addr} {gs : List Glob} (h : GlobsAt w B (.slice A len c) gs) {k : Nat} (hk : k ≤ len) : GlobsAt w B (.slice A k c) (gs.take k) := by
  obtain ⟨A', c', e, h1, h2, h3⟩ := h
  have hl : gs.length = len := by cases e; rfl
  have hlk : (gs.take k).length = k := by rw [List.length_take]; omega
  refine ⟨A, c, by rw [hlk], ?_, ?_, fun hp => ?_⟩
  · cases e; rw [hlk]; omega
  · cases e; exact h2
  · obtain ⟨b, off, e1, e2, e3⟩ := h3 (by rw [hlk] at hp; omega)
    cases e
    refine ⟨b, off, e1, e2, fun j g hj => e3 j g ?_⟩
    rw [List.getElem?_take] at hj
    split at hj
    · exact hj
    · cases hj
end Go.Proofs.YtgnkkgbjcodihaaDoor
