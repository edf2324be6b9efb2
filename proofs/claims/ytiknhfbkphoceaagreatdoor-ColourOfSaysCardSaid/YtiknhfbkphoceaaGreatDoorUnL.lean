/-
  Several texts in one (UnK UnP UnA UnL): what each proves stands at its theorems.
  Conditions: as the theorems say.
-/
import Derived.Test.YtiknhfbkphoceaaGreatDoorBase
import Derived.OwnWalk
import Derived.Maps.AppendAt
import Derived.RegionTactic
import Derived.Conc.MuLone
import Derived.Deep.QuietTactic
import Derived.BigQuiet
namespace Go.Proofs.YtiknhfbkphoceaaGreatDoor
open Go.RowKit

theorem ret_agg2 {a b a' b' : Int} (h : (a', b') = (a, b)) : Ending.returned (.agg #[.int .i64 a, .int .i64 b]) = .returned (.agg #[.int .i64 a', .int .i64 b']) := by
  injection h with h1 h2; rw [h1, h2]

theorem infoInt : (Tryz.prog.info? 3).map (fun i => (i.zero, i.size, i.bytes)) = some (some (.int .i64 0), 1, 8) := by kernel_rfl
/-- The call owns the slice v, which reads as xs. -/
def OwnInts (w : World) (base : Nat) (v : Value) (xs : List Int) : Prop := w.ownsRow base 3 1 v xs.length (xs.map (Value.int .i64))
theorem OwnInts.nil (w : World) (base : Nat) : OwnInts w base (.slice none 0 0) [] := World.ownsRow_nil w base 3 1
theorem OwnInts.ints {w : World} {base : Nat} {v : Value} {xs : List Int} (h : OwnInts w base v xs) : IntsAt w w.heap.size v xs := by
  have hc := fun {g : Nat} (hg : v.ownBlock = some g) => World.ownsRow.cells h hg
  rcases h.2 with ⟨rfl, hn⟩ | ⟨g, cap, cur, rfl, _, hgg, hnc, hcm, _, _⟩
  · exact ⟨none, 0, by rw [hn], by omega, by omega, fun h => by omega⟩
  · refine ⟨some ⟨g, 0, none⟩, cap, rfl, hnc, by unfold maxLen at hcm; omega, fun _ => ⟨g, 0, rfl, ?_, fun k x hk => ?_⟩⟩
    · rcases Nat.lt_or_ge g w.heap.size with h | h
      · exact h
      · rw [Array.getElem?_eq_none h] at hgg; cases hgg
    · have := hc (g := g) rfl k (.int .i64 x) (by rw [List.getElem?_map, hk]; rfl)
      rw [← this]
      unfold Addr.add
      split <;> simp_all
theorem OwnInts.below {w w' : World} {base B : Nat} {v : Value} {xs : List Int} (h : OwnInts w base v xs) (hb : Below B w w') (hB : B = w.heap.size) : OwnInts w' base v xs := by
  refine World.ownsRow.kept (row := none) h ⟨hb.os, hb.tape, hb.output, hb.size, fun k hk _ => hb.block k (by omega)⟩ ?_
  cases v.ownBlock <;> simp
theorem own_block_ge {w : World} {base : Nat} {e : TypeId} {size n : Nat} {v : Value} {xs : List Value} (h : w.ownsRow base e size v n xs) : ∀ k, v.ownBlock = some k → base ≤ k := by
  intro k hk
  rcases h.2 with ⟨rfl, _⟩ | ⟨g, cap, cur, rfl, hb, _⟩
  · simp [Value.ownBlock] at hk
  · simp [Value.ownBlock] at hk
    omega
/-
  Several texts in one (KitC ByK KitD): what each proves stands at its theorems.
  Conditions: as the theorems say.
-/

theorem grown_below {w w' : World} {base : Nat} {row : Option Nat} (hg : w.grownBy w' row) (hb : base ≤ w.heap.size) (hr : ∀ k, row = some k → base ≤ k) : Below base w w' :=
  (Below.refl _ _).grown hg hb hr
theorem grown_of_alloc {w w' : World} {o : Obj} {row : Option Nat} (hg : (w.alloc o).grownBy w' row) : w.grownBy w' row :=
  ⟨hg.os, hg.tape, hg.output, Nat.le_trans (by simp) hg.size, fun i hi hne => (hg.block i (by simp; omega) hne).trans (Below.heap_alloc w o i hi)⟩
theorem add_zero_addr (a : Addr) : a.add 0 = a := by unfold Addr.add; simp
/-- What an append leaves: the slice owns the longer list; old memory stands; only the slice's own block was written. -/
def Appended (w : World) (base : Nat) (e : TypeId) (size : Nat) (v : Value) (n : Nat) (xs : List Value) (H : Nat) (v' : Value) (w' : World) : Prop :=
  w'.ownsRow base e size v' n xs ∧ Below base w w' ∧ w.grownBy w' v.ownBlock ∧ (v'.ownBlock = v.ownBlock ∨ v'.ownBlock = some H)
section
variable {P : Program}
theorem run_app_nil (w : World) (base : Nat) (t ty e : TypeId) (i : TypeInfo) (size : Nat) (ht : P.underlying t = some (.slice e)) (hi : P.info? e = some i)
    (v : Value) (n : Nat) (xs : List Value) (hown : w.ownsRow base e size v n xs) (c : Nat) : (Builtin.append_ #[t, t] ty #[v, .slice none 0 c]).run P w = .ok v w := by
  rcases hown.2 with ⟨rfl, rfl⟩ | ⟨g, cap, cur, rfl, _, _, hnc, _⟩
  · simp [Builtin.append_, run_underlying ht, sizeOf, typeInfo, hi, Builtin.lenOf, Builtin.firstCells]
  · simp [Builtin.append_, run_underlying ht, sizeOf, typeInfo, hi, Builtin.lenOf, Builtin.firstCells, hnc, storeCells]
/-- append(v, x...), x whatever slice. -/
theorem app_src {w : World} {ops : Array Oper} {rest : List Oper} {o : Oper} {a : Act} {Q : Exit → Act → World → Prop} (hgd : o.guard = none) (s x : Operand) (t e : TypeId)
    (ho : o.op = .call { callee := .builtin .append, args := #[s, x], argTypes := #[t, t] })
    (z : Value) (size bytes : Nat) (ht : P.underlying t = some (.slice e)) (hinfo : (P.info? e).map (fun i => (i.zero, i.size, i.bytes)) = some (some z, size, bytes)) (hzs : z.cells.size = size) (hsz : 0 < size) (hby : bytes ≤ 10000)
    (base : Nat) (v : Value) (n : Nat) (xs : List Value) (hs : a.eval s = v) (hown : w.ownsRow base e size v n xs)
    (A : Option Addr) (m c : Nat) (news : List Value) (hx : a.eval x = .slice A m c) (hl : news.length = m * size) (hnews : 0 < m → ∃ ad, A = some ad ∧ ∀ j u, news[j]? = some u → w.cell? (ad.add j) = some u) (h1 : ∀ u ∈ news, u.oneCell' = true)
    (hlen : n + m ≤ 4000000000) (hbase : base ≤ w.heap.size) (H : Nat) (hH : w.heap.size = H)
    (h : ∀ v' w', Hid (Appended w base e size v (n + m) (xs ++ news) H v' w') → wpList P ops Q rest (a.put o.dst v') w') : wpList P ops Q (o :: rest) a w := by
  obtain ⟨i, hi, hz, hsize, hbytes⟩ := info_parts hinfo
  subst hH
  have key : ∃ v' w', (Builtin.append_ #[t, t] o.type #[v, .slice A m c]).run P w = .ok v' w' ∧ Appended w base e size v (n + m) (xs ++ news) w.heap.size v' w' := by
    have some_case : ∀ ad : Addr, A = some ad → (∀ j u, news[j]? = some u → w.cell? (ad.add j) = some u) → ∃ v' w', (Builtin.append_ #[t, t] o.type #[v, .slice A m c]).run P w = .ok v' w' ∧ Appended w base e size v (n + m) (xs ++ news) w.heap.size v' w' := by
      intro ad hA hc
      subst hA
      have hmul : (n + m) * bytes ≤ 140737488355328 := Nat.le_trans (Nat.mul_le_mul hlen hby) (by decide)
      obtain ⟨v', w', hrun, h2, h3, _, h5⟩ := run_append_own_at (P := P) w base t o.type e i z size bytes ht hi hz hsize hbytes hzs hsz v n xs hown ad m c news hl hc h1 (by unfold maxLen; omega) hmul hbase
      exact ⟨v', w', hrun, h2, grown_below h3 hbase (own_block_ge hown), h3, h5⟩
    rcases A with _ | ad
    · have hm : m = 0 := by
        rcases Nat.eq_zero_or_pos m with h0 | h0
        · exact h0
        · obtain ⟨ad, h, _⟩ := hnews h0
          cases h
      subst hm
      have hn : news = [] := List.eq_nil_of_length_eq_zero (by simpa using hl)
      subst hn
      exact ⟨v, w, run_app_nil w base t _ e i size ht hi v n xs hown c, by simpa using hown, Below.refl _ _, World.grownBy.refl w _, .inl rfl⟩
    · refine some_case ad rfl ?_
      intro j u hu
      rcases Nat.eq_zero_or_pos m with h0 | h0
      · subst h0
        have hn : news = [] := List.eq_nil_of_length_eq_zero (by simpa using hl)
        subst hn
        simp at hu
      · obtain ⟨ad', h, hc⟩ := hnews h0
        injection h with h
        subst h
        exact hc j u hu
  obtain ⟨v', w', hrun, hap⟩ := key
  refine wpList_plain hgd fun K hK => ?_
  unfold Oper.wp execOp
  simp only [ho, resolve, invoke, builtin, Sem.run_bind, Sem.run_pure, Result.andThen_ok, List.map_toArray, List.map_cons, List.map_nil, hs, hx, hrun]
  exact hK _ _ (h v' w' (Lib.hid hap))
theorem cells_new (w : World) (news : List Value) (t : TypeId) (H : Nat) (hH : w.heap.size = H) : ∀ j u, news[j]? = some u → (w.alloc (.cells news.toArray t)).cell? ((⟨H, 0, none⟩ : Addr).add j) = some u := by
  intro j u hj
  subst hH
  have e : (⟨w.heap.size, 0, none⟩ : Addr).add j = ⟨w.heap.size, j, none⟩ := by
    unfold Addr.add
    split
    · simp_all
    · simp
  rw [e, cell_of_row _ _ j _ t (0, 0) (heap_alloc_new w _)]
  simpa using hj
/-- append(v, x) of one element, that the walk has just laid into a block of its own. -/
theorem app_one {w : World} {ops : Array Oper} {rest : List Oper} {o : Oper} {a : Act} {Q : Exit → Act → World → Prop} (hgd : o.guard = none) (s x : Operand) (t e : TypeId)
    (ho : o.op = .call { callee := .builtin .append, args := #[s, x], argTypes := #[t, t] })
    (z : Value) (size bytes : Nat) (ht : P.underlying t = some (.slice e)) (hinfo : (P.info? e).map (fun i => (i.zero, i.size, i.bytes)) = some (some z, size, bytes)) (hzs : z.cells.size = size) (hsz : 0 < size) (hby : bytes ≤ 10000)
    (base : Nat) (v : Value) (n : Nat) (xs : List Value) (hs : a.eval s = v) (hown : w.ownsRow base e size v n xs)
    (H : Nat) (news : List Value) (hx : a.eval x = .slice (some ⟨H, 0, none⟩) 1 1) (hl : news.length = size) (h1 : ∀ u ∈ news, u.oneCell' = true) (hH : w.heap.size = H)
    (hlen : n ≤ 3000000000) (hbase : base ≤ w.heap.size)
    (h : ∀ v' w', Hid (Appended w base e size v (n + 1) (xs ++ news) (H + 1) v' w') → wpList P ops Q rest (a.put o.dst v') w') : wpList P ops Q (o :: rest) a (w.alloc (.cells news.toArray e)) := by
  refine app_src hgd s x t e ho z size bytes ht hinfo hzs hsz hby base v n xs hs (hown.alloc _) (some ⟨H, 0, none⟩) 1 1 news hx (by omega) (fun _ => ⟨_, rfl, cells_new w news e H hH⟩) h1 (by omega) (by simp; omega) (H + 1) (by simp [hH]) ?_
  intro v' w' hap
  obtain ⟨a1, a2, a3, a4⟩ := hap.out
  have hg := grown_of_alloc a3
  exact h v' w' (Lib.hid ⟨a1, grown_below hg hbase (own_block_ge hown), hg, a4⟩)
end
theorem Appended.own {w w' : World} {base : Nat} {e : TypeId} {size : Nat} {v v' : Value} {n : Nat} {xs : List Value} {H : Nat} (h : Appended w base e size v n xs H v' w') : w'.ownsRow base e size v' n xs := h.1
theorem Appended.below {w w' : World} {base : Nat} {e : TypeId} {size : Nat} {v v' : Value} {n : Nat} {xs : List Value} {H : Nat} (h : Appended w base e size v n xs H v' w') : Below base w w' := h.2.1
/-- A block of another element type than the written row's stands. -/
theorem grown_blk {w w' : World} {base : Nat} {e : TypeId} {size : Nat} {v : Value} {n0 : Nat} {xs0 : List Value} (hg : w.grownBy w' v.ownBlock) (ho : w.ownsRow base e size v n0 xs0)
    {g : Nat} {t : TypeId} {cs : Array Value} (hb : Blk w g t cs) (hne : e ≠ t) : Blk w' g t cs := by
  refine (hg.block g hb.lt ?_).trans hb
  rcases ho.2 with ⟨rfl, _⟩ | ⟨g', cap, cur, rfl, _, hh, _⟩
  · simp [Value.ownBlock]
  · simp only [Value.ownBlock]
    intro he
    cases he
    unfold Blk at hb
    rw [hh] at hb
    cases hb
    exact hne rfl
/-- A block of another element type than the row's stands. -/
theorem Appended.blk {w w' : World} {base : Nat} {e : TypeId} {size : Nat} {v v' : Value} {n : Nat} {xs : List Value} {H : Nat} (h : Appended w base e size v n xs H v' w') {n0 : Nat} {xs0 : List Value} (ho : w.ownsRow base e size v n0 xs0)
    {g : Nat} {t : TypeId} {cs : Array Value} (hb : Blk w g t cs) (hne : e ≠ t) : Blk w' g t cs := by
  refine (h.2.2.1.block g hb.lt ?_).trans hb
  rcases ho.2 with ⟨rfl, _⟩ | ⟨g', cap, cur, rfl, _, hh, _⟩
  · simp [Value.ownBlock]
  · simp only [Value.ownBlock]
    intro he
    cases he
    unfold Blk at hb
    rw [hh] at hb
    cases hb
    exact hne rfl
/-- A row in another block stands. -/
theorem Appended.row {w w' : World} {base : Nat} {e : TypeId} {size : Nat} {v v' : Value} {n : Nat} {xs : List Value} {H : Nat} (h : Appended w base e size v n xs H v' w') {base0 : Nat} {e0 : TypeId} {size0 n0 : Nat} {v0 : Value} {xs0 : List Value}
    (ho : w.ownsRow base0 e0 size0 v0 n0 xs0) (hne : ∀ k, v0.ownBlock = some k → v.ownBlock ≠ some k) : w'.ownsRow base0 e0 size0 v0 n0 xs0 := by
  refine World.ownsRow.kept ho h.2.2.1 ?_
  cases hv : v0.ownBlock with
  | none => exact .inl rfl
  | some k => exact .inr fun he => hne k hv he.symm
/-
  Several texts in one (MacI MacJ): what each proves stands at its theorems.
  Conditions: as the theorems say.
-/

theorem below_drewN {B : Nat} {a w : World} (h : Below B a w) (n : Nat) : Below B a (w.drewN n) := ⟨h.os, h.tape, h.output, h.size, h.block⟩
theorem ints_nil (w : World) (B : Nat) : IntsAt w B (.slice none 0 0) [] := ⟨none, 0, rfl, by simp, by omega, fun h => by simp at h⟩
theorem OwnInts.set {w : World} {base : Nat} {v : Value} {xs : List Int} (h : OwnInts w base v xs) {b o : Nat} (hb : b < base) (u : Value) : OwnInts (w.setCell ⟨b, o, none⟩ u) base v xs :=
  ownsRow_setCell_below (a := ⟨b, o, none⟩) h hb u

set_option maxRecDepth 100000 in
set_option maxHeartbeats 1000000 in
theorem Ints_any (v1 v2 : Value) (xs ys : List Int) (w : World) (h1 : IntsAt w w.heap.size v1 xs) (h2 : IntsAt w w.heap.size v2 ys) :
    Calls Tryz.prog 6 #[v1, v2] w fun e w' => e = .returned (.bool (decide (xs = ys))) ∧ Below w.heap.size w w' := by
  obtain ⟨A, c, rfl, k1, k2, k3⟩ := h1
  obtain ⟨B, d, rfl, l1, l2, l3⟩ := h2
  by_cases hne : xs.length = ys.length
  · have hb : ((xs.length : Int) != (ys.length : Int)) = false := by simp [hne]
    have HX := Lib.hid k3
    have HY := Lib.hid l3
    obtain ⟨len, hlen⟩ : ∃ len, xs.length = len := ⟨_, rfl⟩
    have hlen' : ys.length = len := by omega
    have HN := Lib.hid (And.intro hlen hlen')
    rw [hlen] at k1 hb ⊢
    rw [hlen'] at l1 hb ⊢
    clear k3 l3 hne hlen hlen'
    go_enter Tryz.func6, Tryz.ntmps6
    go_wp2
    go_loopw [5] (fun i wr => ∃ k : Nat, k ≤ len ∧ i = .int .i64 k ∧ Hid (∀ j : Nat, j < k → xs[j]? = ys[j]?) ∧ Below w.heap.size w wr) (fun i _ => len - (intOf i).toNat)
    case atStart => exact ⟨0, Nat.zero_le _, rfl, Lib.hid (fun j h => absurd h (Nat.not_lt_zero j)), Below.refl _ _⟩
    case round =>
      obtain ⟨k, hk, rfl, HF, hb1⟩ := hrel
      by_cases hlt : k < len
      · obtain ⟨bx, ox, rfl, hbx, hcx⟩ := HX.out (by rw [HN.out.1]; omega)
        obtain ⟨by', oy, rfl, hby, hcy⟩ := HY.out (by rw [HN.out.2]; omega)
        obtain ⟨x, hx⟩ : ∃ x, xs[k]? = some x := ⟨xs[k]'(by rw [HN.out.1]; exact hlt), List.getElem?_eq_getElem _⟩
        obtain ⟨y, hy⟩ : ∃ y, ys[k]? = some y := ⟨ys[k]'(by rw [HN.out.2]; exact hlt), List.getElem?_eq_getElem _⟩
        have cx : wr.cell? ⟨bx, ox + k, none⟩ = some (.int .i64 x) := (bcell hb1 hbx).trans (hcx k x hx)
        have cy : wr.cell? ⟨by', oy + k, none⟩ = some (.int .i64 y) := (bcell hb1 hby).trans (hcy k y hy)
        have hk0 : (0 : Int) ≤ (k : Int) := Int.natCast_nonneg k
        have hk1 : (k : Int) < (len : Int) := by omega
        have HB := Lib.hid hb1
        have Hxy := Lib.hid (And.intro hx hy)
        clear hb1 hx hy hcx hcy
        by_cases he : x = y
        · have ht : (x != y) = false := by simp [he]
          have He := Lib.hid he
          clear he
          go_wp2
          go_quiet (fail)
          go_wp2
          go_roundw
          case rel =>
            refine ⟨k + 1, by omega, by go_num, Lib.hid fun j hj => ?_, below_drewN HB.out _⟩
            rcases Nat.lt_or_ge j k with h | h
            · exact HF.out j h
            · obtain rfl : j = k := by omega
              rw [Hxy.out.1, Hxy.out.2, He.out]
          case measure => simp [intOf]; omega
        · have ht : (x != y) = true := by simp [he]
          have He := Lib.hid he
          clear he
          go_wp2
          go_quiet (fail)
          go_wp2
          go_ret
          refine ⟨ret_bool (by symm; apply decide_eq_false; intro h; apply He.out; have := Hxy.out.1; rw [h, Hxy.out.2] at this; cases this; rfl), below_drewN HB.out _⟩
      · obtain rfl : k = len := by omega
        go_wp2
        go_ret
        refine ⟨ret_bool (by symm; apply decide_eq_true; apply List.ext_getElem?; intro j; rcases Nat.lt_or_ge j k with h | h; exact HF.out j h; rw [List.getElem?_eq_none (by rw [HN.out.1]; exact h), List.getElem?_eq_none (by rw [HN.out.2]; exact h)]), hb1⟩
  · have hb : ((xs.length : Int) != (ys.length : Int)) = true := by simp; omega
    go_enter Tryz.func6, Tryz.ntmps6
    go_wp2
    go_ret
    exact ⟨ret_bool (by symm; apply decide_eq_false; intro h; apply hne; rw [h]), Below.refl _ _⟩
/-
  Several texts in one (McA McB McC McD): what each proves stands at its theorems.
  Conditions: as the theorems say.
-/

/-- May a letter stand at a place of a name? -/
def okB (k : Nat) (x : Int) : Bool := decide ((97 ≤ x ∧ x ≤ 122) ∨ (65 ≤ x ∧ x ≤ 90) ∨ x = 95 ∨ (0 < k ∧ 48 ≤ x ∧ x ≤ 57))
/-- May a text be a name? -/
def nameS (s : ByteArray) : Bool := decide (1 ≤ s.size ∧ s.size ≤ 12) && (List.range s.size).all fun k => okB k ((s.data.toList.getD k 0).toNat : Int)
theorem byte_getD (s : ByteArray) (k : Nat) (h : k < s.size) : s.data.toList.getD k 0 = s[k] := by
  rw [List.getD_eq_getElem?_getD, List.getElem?_eq_getElem (by simpa using h)]
  rfl
theorem name_yes (s : ByteArray) (h1 : 1 ≤ s.size) (h2 : s.size ≤ 12) (h : ∀ (j : Nat) (hj : j < s.size), okB j (s[j].toNat : Int) = true) : nameS s = true := by
  unfold nameS
  rw [Bool.and_eq_true, decide_eq_true_eq, List.all_eq_true]
  refine ⟨⟨h1, h2⟩, fun k hk => ?_⟩
  have hk' : k < s.size := by simpa using hk
  rw [byte_getD s k hk']
  exact h k hk'
theorem name_size (s : ByteArray) (h : s.size < 1 ∨ 12 < s.size) : nameS s = false := by
  unfold nameS
  rw [Bool.and_eq_false_iff]
  left
  rw [decide_eq_false_iff_not]
  omega
theorem name_no (s : ByteArray) (k : Nat) (hk : k < s.size) (h : okB k (s[k].toNat : Int) = false) : nameS s = false := by
  unfold nameS
  rw [Bool.and_eq_false_iff]
  right
  rw [List.all_eq_false]
  refine ⟨k, by simpa using hk, ?_⟩
  rw [byte_getD s k hk, h]
  simp
set_option maxHeartbeats 2000000 in
theorem Name_any (s : ByteArray) (w : World) (hs : s.size ≤ 9223372036854775807) : Calls Tryz.prog 64 #[.string s] w fun e w' => e = .returned (.bool (nameS s)) ∧ w = w' := by
  by_cases hz : s.size < 1 ∨ 12 < s.size
  · have HN := Lib.hid (name_size s hz)
    rcases hz with hz | hz
    all_goals
      go_enter Tryz.func64, Tryz.ntmps64
      go_wp2_with fail
      go_ret
      exact ⟨ret_bool HN.out.symm, rfl⟩
  · have h1 : 1 ≤ s.size := by omega
    have h2 : s.size ≤ 12 := by omega
    clear hz
    go_enter Tryz.func64, Tryz.ntmps64
    go_wp2_with fail
    go_loop [15] (fun i => ∃ k : Nat, k ≤ s.size ∧ i = .int .i64 k ∧ Hid (∀ (j : Nat) (hj : j < s.size), j < k → okB j (s[j].toNat : Int) = true)) (fun i => s.size - (intOf i).toNat)
    case atStart => exact ⟨0, Nat.zero_le _, rfl, Lib.hid (fun j _ h => absurd h (Nat.not_lt_zero j))⟩
    case round =>
      obtain ⟨k, hk, rfl, H⟩ := hrel
      by_cases hlt : k < s.size
      · have hx0 : (0 : Int) ≤ (s[k].toNat : Int) := by omega
        rcases (by omega : ((s[k].toNat : Int) < 48) ∨ (48 ≤ (s[k].toNat : Int) ∧ (s[k].toNat : Int) ≤ 57) ∨ (58 ≤ (s[k].toNat : Int) ∧ (s[k].toNat : Int) ≤ 64) ∨ (65 ≤ (s[k].toNat : Int) ∧ (s[k].toNat : Int) ≤ 90) ∨ (91 ≤ (s[k].toNat : Int) ∧ (s[k].toNat : Int) ≤ 94) ∨ (95 ≤ (s[k].toNat : Int) ∧ (s[k].toNat : Int) ≤ 95) ∨ (96 ≤ (s[k].toNat : Int) ∧ (s[k].toNat : Int) ≤ 96) ∨ (97 ≤ (s[k].toNat : Int) ∧ (s[k].toNat : Int) ≤ 122) ∨ (123 ≤ (s[k].toNat : Int))) with a1 | ⟨a1, a2⟩ | ⟨a1, a2⟩ | ⟨a1, a2⟩ | ⟨a1, a2⟩ | ⟨a1, a2⟩ | ⟨a1, a2⟩ | ⟨a1, a2⟩ | a1
        all_goals
          first | (have hb : ((s[k].toNat : Int) == 95) = true := by simp; omega) | (have hb : ((s[k].toNat : Int) == 95) = false := by simp; omega)
          by_cases h0 : k = 0
          all_goals
            first | (have hb0 : ((k : Int) == 0) = true := by simp [h0]) | (have hb0 : ((k : Int) == 0) = false := by simp [h0])
            first | (have hk0 : 0 < k := by omega) | (have hk0 : k < 1 := by omega)
            clear h0
            go_wp2_with fail
            all_goals first
              | (go_round
                 case rel =>
                   refine ⟨k + 1, by omega, by go_num, Lib.hid fun j hj hjk => ?_⟩
                   rcases Nat.lt_or_ge j k with h | h
                   · exact H.out j hj h
                   · obtain rfl : j = k := by omega
                     unfold okB
                     rw [decide_eq_true_eq]
                     omega
                 case measure => simp [intOf]; omega)
              | (go_ret
                 refine ⟨ret_bool (name_no s k hlt ?_).symm, rfl⟩
                 unfold okB
                 rw [decide_eq_false_iff_not]
                 omega)
              | (exfalso
                 simp only [Bool.not_eq_false', decide_eq_true_eq] at *
                 omega)
      · have HN := Lib.hid (name_yes s h1 h2 fun j hj => H.out j hj (by omega))
        go_wp2_with fail
        go_ret
        exact ⟨ret_bool HN.out.symm, rfl⟩
theorem Within_any (n lo hi : Int) (w : World) : Calls Tryz.prog 8 #[.int .i64 n, .int .i64 lo, .int .i64 hi] w fun e w' => e = .returned (.bool (decide (lo ≤ n ∧ n ≤ hi))) ∧ w = w' := by
  by_cases h1 : lo ≤ n
  · by_cases h2 : n ≤ hi
    · go_enter Tryz.func8, Tryz.ntmps8
      go_wp2_with fail
      go_ret
      exact ⟨ret_bool (by simp; omega), rfl⟩
    · go_enter Tryz.func8, Tryz.ntmps8
      go_wp2_with fail
      go_ret
      exact ⟨ret_bool (by simp; omega), rfl⟩
  · go_enter Tryz.func8, Tryz.ntmps8
    go_wp2_with fail
    go_ret
    exact ⟨ret_bool (by simp; omega), rfl⟩

structure Glob where
  name : ByteArray
  size : Int
  init : List Int
/-- The slice value v reads as the globals gs, below block B. -/
def GlobsAt (w : World) (B : Nat) (v : Value) (gs : List Glob) : Prop :=
  ∃ (A : Option Addr) (c : Nat), v = .slice A gs.length c ∧ gs.length ≤ c ∧ c ≤ 9223372036854775807 ∧
    (0 < gs.length → ∃ b off, A = some ⟨b, off, none⟩ ∧ b < B ∧ ∀ (k : Nat) (g : Glob), gs[k]? = some g → ∃ iv,
      w.cell? ⟨b, off + k * 3, none⟩ = some (.string g.name) ∧ w.cell? ⟨b, off + k * 3 + 1, none⟩ = some (.int .i64 g.size) ∧ w.cell? ⟨b, off + k * 3 + 2, none⟩ = some iv ∧ IntsAt w B iv g.init)
theorem GlobsAt.below {W w1 : World} {B B' : Nat} {v : Value} {gs : List Glob} (h : GlobsAt W B v gs) (hb : Below B' W w1) (hB : B ≤ B') : GlobsAt w1 B v gs := by
  obtain ⟨A, c, e, h1, h2, h3⟩ := h
  refine ⟨A, c, e, h1, h2, fun hl => ?_⟩
  obtain ⟨b, off, e1, e2, e3⟩ := h3 hl
  refine ⟨b, off, e1, e2, fun k g hk => ?_⟩
  obtain ⟨iv, c0, c1, c2, hi⟩ := e3 k g hk
  have hbl : b < B' := by omega
  exact ⟨iv, (bcell hb hbl).trans c0, (bcell hb hbl).trans c1, (bcell hb hbl).trans c2, hi.below hb hB⟩
theorem GlobsAt.more {w : World} {B B' : Nat} {v : Value} {gs : List Glob} (h : GlobsAt w B v gs) (hB : B ≤ B') : GlobsAt w B' v gs := by
  obtain ⟨A, c, e, h1, h2, h3⟩ := h
  refine ⟨A, c, e, h1, h2, fun hl => ?_⟩
  obtain ⟨b, off, e1, e2, e3⟩ := h3 hl
  refine ⟨b, off, e1, by omega, fun k g hk => ?_⟩
  obtain ⟨iv, c0, c1, c2, hi⟩ := e3 k g hk
  exact ⟨iv, c0, c1, c2, hi.more hB⟩
/-- The first place at which p holds; -1: at none. -/
def firstS {α : Type} (p : α → Bool) (l : List α) : Int := match l.findIdx? p with
  | some i => i
  | none => -1
theorem firstS_hit {α : Type} {p : α → Bool} {l : List α} {k : Nat} {x : α} (hk : l[k]? = some x) (hx : p x = true) (h : ∀ (j : Nat) (y : α), j < k → l[j]? = some y → p y = false) : firstS p l = k := by
  have hlt := (List.getElem?_eq_some_iff.1 hk).1
  have : l.findIdx? p = some k := by
    rw [List.findIdx?_eq_some_iff_getElem]
    refine ⟨hlt, ?_, fun j hj => ?_⟩
    · rw [(List.getElem?_eq_some_iff.1 hk).2]; exact hx
    · have := h j l[j] hj (List.getElem?_eq_getElem (by omega))
      simp [this]
  unfold firstS
  rw [this]
theorem firstS_none {α : Type} {p : α → Bool} {l : List α} (h : ∀ (j : Nat) (y : α), l[j]? = some y → p y = false) : firstS p l = -1 := by
  have : l.findIdx? p = none := by
    rw [List.findIdx?_eq_none_iff]
    intro x hx
    obtain ⟨j, hj⟩ := List.mem_iff_getElem?.1 hx
    exact h j x hj
  unfold firstS
  rw [this]
theorem firstS_any {α : Type} (p : α → Bool) (l : List α) : decide (0 ≤ firstS p l) = l.any p := by
  unfold firstS
  cases h : l.findIdx? p with
  | none =>
    rw [List.findIdx?_eq_none_iff] at h
    have : l.any p = false := by rw [List.any_eq_false]; intro x hx; rw [h x hx]; simp
    rw [this]
    rfl
  | some i =>
    rw [List.findIdx?_eq_some_iff_getElem] at h
    obtain ⟨hlt, hp, _⟩ := h
    have : l.any p = true := by rw [List.any_eq_true]; exact ⟨l[i], List.getElem_mem hlt, hp⟩
    rw [this, decide_eq_true_eq]
    simp

def sumG (gs : List Glob) : Int := (gs.map fun g => g.size).foldl (· + ·) 0
theorem sumG_snoc (gs : List Glob) (k : Nat) (g : Glob) (h : gs[k]? = some g) : sumG (gs.take (k + 1)) = sumG (gs.take k) + g.size := by
  unfold sumG
  have hlt := (List.getElem?_eq_some_iff.1 h).1
  rw [List.take_succ_eq_append_getElem hlt, (List.getElem?_eq_some_iff.1 h).2, List.map_append, List.foldl_append]
  rfl
/-- What is wrong with a global, those ahead of it given. -/
def gBad (pre : List Glob) (g : Glob) : Int :=
  if nameS g.name = false then 12 else if (pre.any fun h => h.name.toList == g.name.toList) = true then 7 else if ¬ (1 ≤ g.size ∧ g.size ≤ 200) then 3
  else if g.size < (g.init.length : Int) then 9 else if 200 < sumG pre + g.size then 10 else 0
def gBadAt (gs : List Glob) (k : Nat) : Int := match gs[k]? with
  | some g => gBad (gs.take k) g
  | none => 0
/-- The first fault of a row of places. -/
def firstBad (bad : Nat → Int) (n : Nat) : Int × Int := match (List.range n).find? (fun i => bad i != 0) with
  | some i => (bad i, (i : Int))
  | none => (0, 0)
theorem firstBad_hit {bad : Nat → Int} {n k : Nat} (hk : k < n) (h : bad k ≠ 0) (hb : ∀ j, j < k → bad j = 0) : firstBad bad n = (bad k, (k : Int)) := by
  have : (List.range n).find? (fun i => bad i != 0) = some k := by
    rw [List.find?_eq_some_iff_getElem]
    refine ⟨by simpa using h, k, by simpa using hk, by simp, fun j hj => ?_⟩
    simp [hb j hj]
  unfold firstBad
  rw [this]
theorem firstBad_ok {bad : Nat → Int} {n : Nat} (hb : ∀ j, j < n → bad j = 0) : firstBad bad n = (0, 0) := by
  have : (List.range n).find? (fun i => bad i != 0) = none := by
    rw [List.find?_eq_none]
    intro j hj
    simp [hb j (by simpa using hj)]
  unfold firstBad
  rw [this]
def globF (gs : List Glob) : Int × Int := if 10 < gs.length then (2, 0) else firstBad (gBadAt gs) gs.length
theorem globF_hit {gs : List Glob} {k : Nat} {g : Glob} (hl : gs.length ≤ 10) (hk : gs[k]? = some g) (h : gBad (gs.take k) g ≠ 0) (hb : ∀ j, j < k → gBadAt gs j = 0) : globF gs = (gBad (gs.take k) g, (k : Int)) := by
  have e : gBadAt gs k = gBad (gs.take k) g := by unfold gBadAt; rw [hk]
  unfold globF
  rw [if_neg (by omega), firstBad_hit (List.getElem?_eq_some_iff.1 hk).1 (by rw [e]; exact h) hb, e]
theorem globF_ok {gs : List Glob} (hl : gs.length ≤ 10) (hb : ∀ j, j < gs.length → gBadAt gs j = 0) : globF gs = (0, 0) := by
  unfold globF
  rw [if_neg (by omega), firstBad_ok hb]
theorem gBad_name {pre : List Glob} {g : Glob} (h : nameS g.name = false) : gBad pre g = 12 := by unfold gBad; rw [if_pos h]
theorem gBad_had {pre : List Glob} {g : Glob} (h : nameS g.name = true) (h2 : (pre.any fun h => h.name.toList == g.name.toList) = true) : gBad pre g = 7 := by unfold gBad; rw [if_neg (by rw [h]; simp), if_pos h2]
theorem gBad_range {pre : List Glob} {g : Glob} (h : nameS g.name = true) (h2 : (pre.any fun h => h.name.toList == g.name.toList) = false) (h3 : ¬ (1 ≤ g.size ∧ g.size ≤ 200)) : gBad pre g = 3 := by
  unfold gBad; rw [if_neg (by rw [h]; simp), if_neg (by rw [h2]; simp), if_pos h3]
theorem gBad_size {pre : List Glob} {g : Glob} (h : nameS g.name = true) (h2 : (pre.any fun h => h.name.toList == g.name.toList) = false) (h3 : 1 ≤ g.size ∧ g.size ≤ 200) (h4 : g.size < (g.init.length : Int)) : gBad pre g = 9 := by
  unfold gBad; rw [if_neg (by rw [h]; simp), if_neg (by rw [h2]; simp), if_neg (by simpa using h3), if_pos h4]
theorem gBad_much {pre : List Glob} {g : Glob} (h : nameS g.name = true) (h2 : (pre.any fun h => h.name.toList == g.name.toList) = false) (h3 : 1 ≤ g.size ∧ g.size ≤ 200) (h4 : ¬ g.size < (g.init.length : Int)) (h5 : 200 < sumG pre + g.size) : gBad pre g = 10 := by
  unfold gBad; rw [if_neg (by rw [h]; simp), if_neg (by rw [h2]; simp), if_neg (by simpa using h3), if_neg h4, if_pos h5]
theorem gBad_ok {pre : List Glob} {g : Glob} (h : nameS g.name = true) (h2 : (pre.any fun h => h.name.toList == g.name.toList) = false) (h3 : 1 ≤ g.size ∧ g.size ≤ 200) (h4 : ¬ g.size < (g.init.length : Int)) (h5 : ¬ 200 < sumG pre + g.size) : gBad pre g = 0 := by
  unfold gBad; rw [if_neg (by rw [h]; simp), if_neg (by rw [h2]; simp), if_neg (by simpa using h3), if_neg h4, if_neg h5]
theorem GlobsAt.take {w : World} {B len c : Nat} {A : Option Addr} {gs : List Glob} (h : GlobsAt w B (.slice A len c) gs) {k : Nat} (hk : k ≤ len) : GlobsAt w B (.slice A k c) (gs.take k) := by
  obtain ⟨A', c', e, h1, h2, h3⟩ := h
  have hl : gs.length = len := by cases e; rfl
  have hlk : (gs.take k).length = k := by rw [List.length_take]; omega
  refine ⟨A, c, by rw [hlk], ?_, ?_, fun hp => ?_⟩
  · cases e; rw [hlk]; omega
  · cases e; exact h2
  · obtain ⟨b, off, e1, e2, e3⟩ := h3 (by rw [hlk] at hp; omega)
    cases e
    refine ⟨b, off, e1, e2, fun j g hj => e3 j g ?_⟩
    rw [List.getElem?_take] at hj
    split at hj
    · exact hj
    · cases hj
end Go.Proofs.YtiknhfbkphoceaaGreatDoor
namespace Go.Proofs.YtiknhfbkphoceaaGreatDoor
open Go.RowKit

structure Opd where
  reg : Bool
  n : Int
deriving DecidableEq
structure InsU where
  op : Int
  dst : Int
  a : Opd
  b : Opd
  fn : Int
  args : List Opd
structure PhiU where
  dst : Int
  from_ : List Opd
structure BlkU where
  phis : List PhiU
  list : List InsU
  kind : Int
  on : Opd
  to : List Int
structure FunU where
  name : ByteArray
  params : Int
  regs : Int
  blocks : List BlkU
def Opd.zero : Opd := ⟨false, 0⟩
def BlkU.none : BlkU := ⟨[], [], 0, ⟨false, 0⟩, []⟩
/-- The first fault of a row, its code alone. -/
def badOf {α : Type} (f : Nat → α → Int) (l : List α) (k : Nat) : Int := match l[k]? with
  | some x => f k x
  | none => 0
def firstE {α : Type} (f : Nat → α → Int) (l : List α) : Int := (firstBad (badOf f l) l.length).1
section
variable {α : Type} {f : Nat → α → Int} {l : List α}
theorem badOf_at {k : Nat} {x : α} (h : l[k]? = some x) : badOf f l k = f k x := by unfold badOf; rw [h]
theorem firstE_hit {k : Nat} {x : α} (hk : l[k]? = some x) (h : f k x ≠ 0) (hb : ∀ j, j < k → badOf f l j = 0) : firstE f l = f k x := by
  unfold firstE
  rw [firstBad_hit (List.getElem?_eq_some_iff.1 hk).1 (by rw [badOf_at hk]; exact h) hb, badOf_at hk]
theorem firstE_ok (hb : ∀ j, j < l.length → badOf f l j = 0) : firstE f l = 0 := by
  unfold firstE
  rw [firstBad_ok hb]
theorem bad_step {k : Nat} {x : α} (hk : l[k]? = some x) (h : f k x = 0) (hb : ∀ j, j < k → badOf f l j = 0) : ∀ j, j < k + 1 → badOf f l j = 0 := fun j hj => by
  rcases Nat.lt_or_ge j k with h1 | h1
  · exact hb j h1
  · obtain rfl : j = k := by omega
    rw [badOf_at hk, h]
theorem firstBad_zero {bad : Nat → Int} {n : Nat} (h : (firstBad bad n).1 = 0) : ∀ j, j < n → bad j = 0 := fun j hj => by
  unfold firstBad at h
  cases hf : (List.range n).find? (fun i => bad i != 0) with
  | none =>
    rw [List.find?_eq_none] at hf
    have := hf j (by simpa using hj)
    simpa using this
  | some i =>
    rw [hf] at h
    have := List.find?_some hf
    simp only [bne_iff_ne, ne_eq] at this
    exact absurd h this
theorem firstE_zero (h : firstE f l = 0) {k : Nat} {x : α} (hk : l[k]? = some x) : f k x = 0 := by
  have := firstBad_zero h k (List.getElem?_eq_some_iff.1 hk).1
  rwa [badOf_at hk] at this
end
/-- A number between two others? -/
def inB (n lo hi : Int) : Bool := decide (lo ≤ n ∧ n ≤ hi)
def valE (regs : Int) (v : Opd) : Int := if v.reg = true ∧ inB v.n 0 (regs - 1) = false then 3 else 0
def dstE (regs n : Int) : Int := if inB n 0 (regs - 1) = false then 3 else 0
def waysU (kind : Int) : Nat := if kind = 2 then 1 else if kind = 3 then 2 else 0
def endE (nb regs : Int) (b : BlkU) : Int :=
  if inB b.kind 1 3 = false then 4 else if b.to.length ≠ waysU b.kind then 9 else if (b.to.any fun n => !inB n 1 (nb - 1)) = true then 3
  else if (b.kind = 3 ∧ b.to.getD 0 0 = b.to.getD 1 0) ∨ (b.kind = 2 ∧ b.on ≠ Opd.zero) then 5 else valE regs b.on
/-- Targets of a block, put down for each. -/
def aheadT (i : Nat) (to : List Int) (F : Nat → List Int) : Nat → List Int := to.foldl (fun (F : Nat → List Int) (t : Int) (q : Nat) => if ((q : Nat) : Int) = t then F q ++ [((i : Nat) : Int)] else F q) F
/-- Which blocks lead to each: the first k blocks looked at. -/
def aheadF (blocks : List BlkU) : Nat → Nat → List Int
  | 0 => fun _ => []
  | k + 1 => aheadT k (match blocks[k]? with | some b => b.to | none => []) (aheadF blocks k)
def aheadU (blocks : List BlkU) : List (List Int) := (List.range blocks.length).map (aheadF blocks blocks.length)
def phiE (regs : Int) (ahead : List (List Int)) (block : Nat) (p : PhiU) : Int :=
  if block = 0 then 5 else if dstE regs p.dst ≠ 0 then dstE regs p.dst else if p.from_.length ≠ (ahead.getD block []).length then 9 else firstE (fun _ v => valE regs v) p.from_
/-- Does an instruction of a kind have a Dst, an A, a B? -/
def hasD (op : Int) : Bool := decide (op = 1 ∨ op = 16 ∨ op = 17 ∨ op = 18 ∨ (2 ≤ op ∧ op ≤ 15) ∨ op = 20 ∨ op = 21)
def hasA (op : Int) : Bool := decide (op = 1 ∨ op = 16 ∨ op = 17 ∨ op = 18 ∨ (2 ≤ op ∧ op ≤ 15) ∨ op = 19 ∨ op = 22)
def hasB (op : Int) : Bool := decide ((2 ≤ op ∧ op ≤ 15) ∨ op = 19)
def argE (ps : List Int) (regs : Int) (x : InsU) : Int :=
  if x.op ≠ 20 then 0 else if inB x.fn 0 ((ps.length : Int) - 1) = false then 3 else if (x.args.length : Int) ≠ ps.getD x.fn.toNat 0 then 9 else firstE (fun _ v => valE regs v) x.args
def insE (ps : List Int) (regs : Int) (x : InsU) : Int :=
  if inB x.op 1 22 = false then 4
  else if (hasD x.op = false ∧ x.dst ≠ -1) ∨ (hasA x.op = false ∧ x.a ≠ Opd.zero) ∨ (hasB x.op = false ∧ x.b ≠ Opd.zero) ∨ (x.op ≠ 20 ∧ (x.fn ≠ 0 ∨ 0 < x.args.length)) then 5
  else if hasD x.op = true ∧ ¬ (x.op = 20 ∧ x.dst = -1) ∧ dstE regs x.dst ≠ 0 then dstE regs x.dst
  else if valE regs x.a ≠ 0 then valE regs x.a else if valE regs x.b ≠ 0 then valE regs x.b else argE ps regs x
def blkE (ps : List Int) (regs : Int) (ahead : List (List Int)) (i : Nat) (b : BlkU) : Int :=
  if firstE (fun _ p => phiE regs ahead i p) b.phis ≠ 0 then firstE (fun _ p => phiE regs ahead i p) b.phis else firstE (fun _ x => insE ps regs x) b.list
def bodyE (ps : List Int) (f : FunU) : Int :=
  if firstE (fun _ b => endE (f.blocks.length : Int) f.regs b) f.blocks ≠ 0 then firstE (fun _ b => endE (f.blocks.length : Int) f.regs b) f.blocks
  else firstE (fun i b => blkE ps f.regs (aheadU f.blocks) i b) f.blocks
def manyU (blocks : List BlkU) : Nat := (blocks.map fun b => b.phis.length + b.list.length).sum
def headE (had : List ByteArray) (f : FunU) : Int :=
  if nameS f.name = false then 12 else if (had.any fun h => h.toList == f.name.toList) = true then 7
  else if ¬ (0 ≤ f.params ∧ f.params ≤ 6) ∨ ¬ (f.params ≤ f.regs ∧ f.regs ≤ 100) then 3 else if ¬ (1 ≤ f.blocks.length ∧ f.blocks.length ≤ 40) ∨ 300 < manyU f.blocks then 2 else 0
def mainU (s : ByteArray) : Bool := s.toList == [109, 97, 105, 110]
def mainF (fs : List FunU) : Int × Int := match (List.range fs.length).find? (fun i => match fs[i]? with | some f => mainU f.name | none => false) with
  | none => (6, 0)
  | some i => if 0 < (fs.map FunU.params).getD i 0 then (5, (i : Int)) else (0, 0)
/-- What code.Check says. -/
def unitF (gs : List Glob) (fs : List FunU) : Int × Int :=
  if 10 < gs.length ∨ 10 < fs.length then (2, 0)
  else if (globF gs).1 ≠ 0 then globF gs
  else if (firstBad (badOf (fun i f => headE (gs.map Glob.name ++ (fs.take i).map FunU.name) f) fs) fs.length).1 ≠ 0 then firstBad (badOf (fun i f => headE (gs.map Glob.name ++ (fs.take i).map FunU.name) f) fs) fs.length
  else if (firstBad (badOf (fun _ f => bodyE (fs.map FunU.params) f) fs) fs.length).1 ≠ 0 then firstBad (badOf (fun _ f => bodyE (fs.map FunU.params) f) fs) fs.length
  else mainF fs
end Go.Proofs.YtiknhfbkphoceaaGreatDoor
namespace Go.Proofs.YtiknhfbkphoceaaGreatDoor
open Go.RowKit

/-- The cells of blocks below B stand. -/
def Kept (w w1 : World) (B : Nat) : Prop := ∀ b o, b < B → w1.cell? ⟨b, o, none⟩ = w.cell? ⟨b, o, none⟩
theorem kept_of {W w1 : World} {B B' : Nat} (hb : Below B' W w1) (hB : B ≤ B') : Kept W w1 B := fun _ _ h => bcell hb (Nat.lt_of_lt_of_le h hB)
/-- The slice value v reads as the things xs, each of so many cells, below block B. -/
def SlAt {α : Type} (size : Nat) (P : World → Nat → List Value → α → Prop) (w : World) (B : Nat) (v : Value) (xs : List α) : Prop :=
  ∃ (A : Option Addr) (c : Nat), v = .slice A xs.length c ∧ xs.length ≤ c ∧ (xs.length ≤ 140737488351232 ∧ c ≤ 9223372036854775807) ∧
    (0 < xs.length → ∃ b off, A = some ⟨b, off, none⟩ ∧ b < B ∧ ∀ (k : Nat) (x : α), xs[k]? = some x → ∃ us, P w B us x ∧ ∀ (j : Nat) (u : Value), us[j]? = some u → w.cell? ⟨b, off + k * size + j, none⟩ = some u)
section
variable {α : Type} {size : Nat} {P : World → Nat → List Value → α → Prop} {w w1 : World} {B B' : Nat} {v : Value} {xs : List α}
theorem SlAt.move (h : SlAt size P w B v xs) (hB : B ≤ B') (hk : Kept w w1 B) (hP : ∀ us x, P w B us x → P w1 B' us x) : SlAt size P w1 B' v xs := by
  obtain ⟨A, c, e, h1, h2, h3⟩ := h
  refine ⟨A, c, e, h1, h2, fun hl => ?_⟩
  obtain ⟨b, off, e1, e2, e3⟩ := h3 hl
  refine ⟨b, off, e1, by omega, fun k x hx => ?_⟩
  obtain ⟨us, hp, hc⟩ := e3 k x hx
  exact ⟨us, hP _ _ hp, fun j u hu => (hk _ _ e2).trans (hc j u hu)⟩
theorem SlAt.form (h : SlAt size P w B v xs) : ∃ A c, v = .slice A xs.length c ∧ xs.length ≤ c ∧ (xs.length ≤ 140737488351232 ∧ c ≤ 9223372036854775807) := by
  obtain ⟨A, c, e, h1, h2, _⟩ := h
  exact ⟨A, c, e, h1, h2⟩
theorem SlAt.at {A : Option Addr} {l c : Nat} (h : SlAt size P w B (.slice A l c) xs) {k : Nat} {x : α} (hx : xs[k]? = some x) : ∃ b off, A = some ⟨b, off, none⟩ ∧ b < B ∧ ∃ us, P w B us x ∧ ∀ (j : Nat) (u : Value), us[j]? = some u → w.cell? ⟨b, off + k * size + j, none⟩ = some u := by
  obtain ⟨A', c', e, h1, h2, h3⟩ := h
  obtain ⟨b, off, e1, e2, e3⟩ := h3 (by have := (List.getElem?_eq_some_iff.1 hx).1; omega)
  cases e
  exact ⟨b, off, e1, e2, e3 k x hx⟩
theorem SlAt.len {A : Option Addr} {l c : Nat} (h : SlAt size P w B (.slice A l c) xs) : xs.length = l := by
  obtain ⟨A', c', e, _⟩ := h
  cases e
  rfl
theorem SlAt.nil (w : World) (B : Nat) : SlAt size P w B (.slice none 0 0) [] := ⟨none, 0, rfl, by simp, by simp, fun h => by simp at h⟩
end
/-- Numbers, as such a slice. -/
theorem IntsAt.move {w w1 : World} {B B' : Nat} {v : Value} {xs : List Int} (h : IntsAt w B v xs) (hB : B ≤ B') (hk : Kept w w1 B) : IntsAt w1 B' v xs := by
  obtain ⟨A, c, e, h1, h2, h3⟩ := h
  refine ⟨A, c, e, h1, h2, fun hl => ?_⟩
  obtain ⟨b, off, e1, e2, e3⟩ := h3 hl
  exact ⟨b, off, e1, by omega, fun k x hx => (hk _ _ e2).trans (e3 k x hx)⟩
theorem GlobsAt.move {w w1 : World} {B B' : Nat} {v : Value} {gs : List Glob} (h : GlobsAt w B v gs) (hB : B ≤ B') (hk : Kept w w1 B) : GlobsAt w1 B' v gs := by
  obtain ⟨A, c, e, h1, h2, h3⟩ := h
  refine ⟨A, c, e, h1, h2, fun hl => ?_⟩
  obtain ⟨b, off, e1, e2, e3⟩ := h3 hl
  refine ⟨b, off, e1, by omega, fun k g hg => ?_⟩
  obtain ⟨iv, c0, c1, c2, hi⟩ := e3 k g hg
  exact ⟨iv, (hk _ _ e2).trans c0, (hk _ _ e2).trans c1, (hk _ _ e2).trans c2, hi.move hB hk⟩
def OpdP (_ : World) (_ : Nat) (us : List Value) (o : Opd) : Prop := us = [.bool o.reg, .int .i64 o.n]
def OpdsAt (w : World) (B : Nat) (v : Value) (os : List Opd) : Prop := SlAt 2 OpdP w B v os
def PhiP (w : World) (B : Nat) (us : List Value) (p : PhiU) : Prop := ∃ fv, us = [.int .i64 p.dst, fv] ∧ OpdsAt w B fv p.from_
def InsP (w : World) (B : Nat) (us : List Value) (x : InsU) : Prop := ∃ av, us = [.int .i64 x.op, .int .i64 x.dst, .bool x.a.reg, .int .i64 x.a.n, .bool x.b.reg, .int .i64 x.b.n, .int .i64 x.fn, av] ∧ OpdsAt w B av x.args
def PhisAt (w : World) (B : Nat) (v : Value) (ps : List PhiU) : Prop := SlAt 2 PhiP w B v ps
def InssAt (w : World) (B : Nat) (v : Value) (xs : List InsU) : Prop := SlAt 8 InsP w B v xs
def BlkP (w : World) (B : Nat) (us : List Value) (b : BlkU) : Prop := ∃ pv lv tv, us = [pv, lv, .int .i64 b.kind, .bool b.on.reg, .int .i64 b.on.n, tv] ∧ PhisAt w B pv b.phis ∧ InssAt w B lv b.list ∧ IntsAt w B tv b.to
def BlksAt (w : World) (B : Nat) (v : Value) (bs : List BlkU) : Prop := SlAt 6 BlkP w B v bs
def FunP (w : World) (B : Nat) (us : List Value) (f : FunU) : Prop := ∃ bv, us = [.string f.name, .int .i64 f.params, .int .i64 f.regs, bv] ∧ BlksAt w B bv f.blocks
def FunsAt (w : World) (B : Nat) (v : Value) (fs : List FunU) : Prop := SlAt 4 FunP w B v fs
section
variable {w w1 : World} {B B' : Nat} {v : Value}
theorem OpdsAt.move {os : List Opd} (h : OpdsAt w B v os) (hB : B ≤ B') (hk : Kept w w1 B) : OpdsAt w1 B' v os := SlAt.move h hB hk fun _ _ h => h
theorem PhiP.move {us : List Value} {p : PhiU} (h : PhiP w B us p) (hB : B ≤ B') (hk : Kept w w1 B) : PhiP w1 B' us p := by
  obtain ⟨fv, e, h⟩ := h
  exact ⟨fv, e, h.move hB hk⟩
theorem InsP.move {us : List Value} {p : InsU} (h : InsP w B us p) (hB : B ≤ B') (hk : Kept w w1 B) : InsP w1 B' us p := by
  obtain ⟨fv, e, h⟩ := h
  exact ⟨fv, e, h.move hB hk⟩
theorem PhisAt.move {ps : List PhiU} (h : PhisAt w B v ps) (hB : B ≤ B') (hk : Kept w w1 B) : PhisAt w1 B' v ps := SlAt.move h hB hk fun _ _ h => h.move hB hk
theorem InssAt.move {ps : List InsU} (h : InssAt w B v ps) (hB : B ≤ B') (hk : Kept w w1 B) : InssAt w1 B' v ps := SlAt.move h hB hk fun _ _ h => h.move hB hk
theorem BlkP.move {us : List Value} {p : BlkU} (h : BlkP w B us p) (hB : B ≤ B') (hk : Kept w w1 B) : BlkP w1 B' us p := by
  obtain ⟨pv, lv, tv, e, h1, h2, h3⟩ := h
  exact ⟨pv, lv, tv, e, h1.move hB hk, h2.move hB hk, h3.move hB hk⟩
theorem BlksAt.move {bs : List BlkU} (h : BlksAt w B v bs) (hB : B ≤ B') (hk : Kept w w1 B) : BlksAt w1 B' v bs := SlAt.move h hB hk fun _ _ h => h.move hB hk
theorem FunP.move {us : List Value} {p : FunU} (h : FunP w B us p) (hB : B ≤ B') (hk : Kept w w1 B) : FunP w1 B' us p := by
  obtain ⟨fv, e, h⟩ := h
  exact ⟨fv, e, h.move hB hk⟩
theorem FunsAt.move {fs : List FunU} (h : FunsAt w B v fs) (hB : B ≤ B') (hk : Kept w w1 B) : FunsAt w1 B' v fs := SlAt.move h hB hk fun _ _ h => h.move hB hk
end
/-- Numbers of the unit are Go's. -/
structure Opd.ok (o : Opd) : Prop where
  n : I64 o.n
structure InsU.ok (x : InsU) : Prop where
  op : I64 x.op
  dst : I64 x.dst
  a : x.a.ok
  b : x.b.ok
  fn : I64 x.fn
  args : ∀ o ∈ x.args, o.ok
structure PhiU.ok (p : PhiU) : Prop where
  dst : I64 p.dst
  from_ : ∀ o ∈ p.from_, o.ok
structure BlkU.ok (b : BlkU) : Prop where
  phis : ∀ p ∈ b.phis, p.ok
  list : ∀ x ∈ b.list, x.ok
  kind : I64 b.kind
  on : b.on.ok
  to : ∀ n ∈ b.to, I64 n
structure FunU.ok (f : FunU) : Prop where
  name : f.name.size ≤ 9223372036854775807
  params : I64 f.params
  regs : I64 f.regs
  blocks : ∀ b ∈ f.blocks, b.ok
end Go.Proofs.YtiknhfbkphoceaaGreatDoor
namespace Go.Proofs.YtiknhfbkphoceaaGreatDoor
open Go.RowKit

theorem mainF_zero {fs : List FunU} (h : (mainF fs).1 = 0) : mainF fs = (0, 0) := by
  unfold mainF at *
  split at h
  · cases h
  · split at h
    · cases h
    · rename_i h1; rw [if_neg h1]
theorem firstBad_pair {bad : Nat → Int} {n : Nat} (h : (firstBad bad n).1 = 0) : firstBad bad n = (0, 0) := firstBad_ok (firstBad_zero h)
structure UnitOk (gs : List Glob) (fs : List FunU) : Prop where
  globs : gs.length ≤ 10
  funs : fs.length ≤ 10
  heads : ∀ (i : Nat) (f : FunU), fs[i]? = some f → headE (gs.map Glob.name ++ (fs.take i).map FunU.name) f = 0
  bodies : ∀ (i : Nat) (f : FunU), fs[i]? = some f → bodyE (fs.map FunU.params) f = 0
  all : unitF gs fs = (0, 0)
theorem unit_ok {gs : List Glob} {fs : List FunU} (h : (unitF gs fs).1 = 0) : UnitOk gs fs := by
  have h0 := h
  unfold unitF at h
  split at h
  · cases h
  · rename_i h1
    split at h
    · rename_i h2; exact absurd h h2
    · rename_i h2
      split at h
      · rename_i h3; exact absurd h h3
      · rename_i h3
        split at h
        · rename_i h4; exact absurd h h4
        · rename_i h4
          refine ⟨by omega, by omega, fun i f hf => ?_, fun i f hf => ?_, ?_⟩
          · have := firstBad_zero (Classical.not_not.1 h3) i (List.getElem?_eq_some_iff.1 hf).1
            rwa [badOf_at hf] at this
          · have := firstBad_zero (Classical.not_not.1 h4) i (List.getElem?_eq_some_iff.1 hf).1
            rwa [badOf_at hf] at this
          · unfold unitF
            rw [if_neg h1, if_neg h2, if_neg h3, if_neg h4, mainF_zero h]
/-- What is a function's own. -/
structure HeadOk (f : FunU) : Prop where
  p0 : 0 ≤ f.params
  p1 : f.params ≤ 6
  r0 : f.params ≤ f.regs
  r1 : f.regs ≤ 100
  b0 : 1 ≤ f.blocks.length
  b1 : f.blocks.length ≤ 40
  many : manyU f.blocks ≤ 300
theorem head_ok {had : List ByteArray} {f : FunU} (h : headE had f = 0) : HeadOk f := by
  unfold headE at h
  split at h
  · cases h
  · split at h
    · cases h
    · split at h
      · cases h
      · rename_i h3
        split at h
        · cases h
        · rename_i h4
          constructor <;> omega
theorem val_ok {regs : Int} {v : Opd} (h : valE regs v = 0) (hr : v.reg = true) : 0 ≤ v.n ∧ v.n < regs := by
  unfold valE at h
  split at h
  · cases h
  · rename_i h1
    have h2 : inB v.n 0 (regs - 1) = true := by
      cases e : inB v.n 0 (regs - 1)
      · exact absurd ⟨hr, e⟩ h1
      · rfl
    unfold inB at h2
    rw [decide_eq_true_eq] at h2
    omega
theorem dst_ok {regs n : Int} (h : dstE regs n = 0) : 0 ≤ n ∧ n < regs := by
  unfold dstE at h
  split at h
  · cases h
  · rename_i h1
    have h2 : inB n 0 (regs - 1) = true := by
      cases e : inB n 0 (regs - 1)
      · exact absurd e h1
      · rfl
    unfold inB at h2
    rw [decide_eq_true_eq] at h2
    omega
structure InsOk (ps : List Int) (regs : Int) (x : InsU) : Prop where
  op : 1 ≤ x.op ∧ x.op ≤ 22
  dst : x.dst = -1 ∨ (hasD x.op = true ∧ 0 ≤ x.dst ∧ x.dst < regs)
  a : x.a.reg = true → 0 ≤ x.a.n ∧ x.a.n < regs
  b : x.b.reg = true → 0 ≤ x.b.n ∧ x.b.n < regs
  noA : hasA x.op = false → x.a = Opd.zero
  noB : hasB x.op = false → x.b = Opd.zero
  args : ∀ v ∈ x.args, v.reg = true → 0 ≤ v.n ∧ v.n < regs
  call : x.op = 20 → 0 ≤ x.fn ∧ x.fn < ps.length ∧ (x.args.length : Int) = ps.getD x.fn.toNat 0
  plain : x.op ≠ 20 → x.fn = 0 ∧ x.args = []
theorem ins_ok {ps : List Int} {regs : Int} {x : InsU} (h : insE ps regs x = 0) : InsOk ps regs x := by
  unfold insE at h
  split at h
  · cases h
  · rename_i h1
    have hop : 1 ≤ x.op ∧ x.op ≤ 22 := by
      cases e : inB x.op 1 22
      · exact absurd e h1
      · unfold inB at e; rw [decide_eq_true_eq] at e; exact e
    split at h
    · cases h
    · rename_i h2
      split at h
      · rename_i h3; exact absurd h h3.2.2
      · rename_i h3
        split at h
        · rename_i h4; exact absurd h h4
        · rename_i h4
          split at h
          · rename_i h5; exact absurd h h5
          · rename_i h5
            have hz : x.args.length = 0 → x.args = [] := List.eq_nil_of_length_eq_zero
            have hargs : x.op = 20 → (0 ≤ x.fn ∧ x.fn < ps.length) ∧ (x.args.length : Int) = ps.getD x.fn.toNat 0 ∧ firstE (fun _ v => valE regs v) x.args = 0 := by
              intro h20
              unfold argE at h
              rw [if_neg (by simpa using h20)] at h
              split at h
              · cases h
              · rename_i h6
                split at h
                · cases h
                · rename_i h7
                  have h8 : inB x.fn 0 ((ps.length : Int) - 1) = true := by
                    cases e : inB x.fn 0 ((ps.length : Int) - 1)
                    · exact absurd e h6
                    · rfl
                  unfold inB at h8
                  rw [decide_eq_true_eq] at h8
                  exact ⟨by omega, Classical.not_not.1 h7, h⟩
            have hno : x.op ≠ 20 → x.fn = 0 ∧ x.args = [] := fun hc => by
              refine ⟨?_, hz ?_⟩
              · exact Classical.byContradiction fun h' => h2 (.inr (.inr (.inr ⟨hc, .inl h'⟩)))
              · exact Classical.byContradiction fun h' => h2 (.inr (.inr (.inr ⟨hc, .inr (by omega)⟩)))
            refine ⟨hop, ?_, val_ok (Classical.not_not.1 h4), val_ok (Classical.not_not.1 h5), ?_, ?_, ?_, ?_, hno⟩
            · cases hd : hasD x.op
              · exact .inl (Classical.byContradiction fun h' => h2 (.inl ⟨hd, h'⟩))
              · by_cases hc : x.op = 20 ∧ x.dst = -1
                · exact .inl hc.2
                · by_cases h7 : dstE regs x.dst = 0
                  · exact .inr ⟨rfl, dst_ok h7⟩
                  · exact absurd ⟨hd, hc, h7⟩ h3
            · intro ha
              exact Classical.byContradiction fun h' => h2 (.inr (.inl ⟨ha, h'⟩))
            · intro hb
              exact Classical.byContradiction fun h' => h2 (.inr (.inr (.inl ⟨hb, h'⟩)))
            · intro v hv
              by_cases h20 : x.op = 20
              · obtain ⟨_, _, h8⟩ := hargs h20
                obtain ⟨k, hk⟩ := List.mem_iff_getElem?.1 hv
                exact val_ok (firstE_zero h8 hk)
              · rw [(hno h20).2] at hv; cases hv
            · intro h20
              obtain ⟨h8, h9, _⟩ := hargs h20
              exact ⟨h8.1, h8.2, h9⟩
structure EndOk (nb regs : Int) (b : BlkU) : Prop where
  kind : 1 ≤ b.kind ∧ b.kind ≤ 3
  size : b.to.length = waysU b.kind
  to : ∀ n ∈ b.to, 1 ≤ n ∧ n < nb
  on : b.on.reg = true → 0 ≤ b.on.n ∧ b.on.n < regs
theorem end_ok {nb regs : Int} {b : BlkU} (h : endE nb regs b = 0) : EndOk nb regs b := by
  unfold endE at h
  split at h
  · cases h
  · rename_i h1
    have hk : 1 ≤ b.kind ∧ b.kind ≤ 3 := by
      cases e : inB b.kind 1 3
      · exact absurd e h1
      · unfold inB at e; rw [decide_eq_true_eq] at e; exact e
    split at h
    · cases h
    · rename_i h2
      split at h
      · cases h
      · rename_i h3
        split at h
        · cases h
        · refine ⟨hk, Classical.not_not.1 h2, fun n hn => ?_, val_ok h⟩
          have h4 : (b.to.any fun n => !inB n 1 (nb - 1)) = false := by
            cases e : (b.to.any fun n => !inB n 1 (nb - 1))
            · rfl
            · exact absurd e h3
          rw [List.any_eq_false] at h4
          have := h4 n hn
          unfold inB at this
          simp only [Bool.not_eq_true', Bool.not_eq_false, decide_eq_true_eq] at this
          omega
structure BodyOk (ps : List Int) (f : FunU) : Prop where
  ends : ∀ b ∈ f.blocks, EndOk (f.blocks.length : Int) f.regs b
  phis : ∀ (i : Nat) (b : BlkU) (p : PhiU), f.blocks[i]? = some b → p ∈ b.phis → phiE f.regs (aheadU f.blocks) i p = 0
  list : ∀ b ∈ f.blocks, ∀ x ∈ b.list, InsOk ps f.regs x
theorem body_ok {ps : List Int} {f : FunU} (h : bodyE ps f = 0) : BodyOk ps f := by
  unfold bodyE at h
  split at h
  · rename_i h1; exact absurd h h1
  · rename_i h1
    have hb : ∀ (i : Nat) (b : BlkU), f.blocks[i]? = some b → blkE ps f.regs (aheadU f.blocks) i b = 0 := fun i b hi => firstE_zero h hi
    have hb2 : ∀ (i : Nat) (b : BlkU), f.blocks[i]? = some b → firstE (fun _ p => phiE f.regs (aheadU f.blocks) i p) b.phis = 0 ∧ firstE (fun _ x => insE ps f.regs x) b.list = 0 := by
      intro i b hi
      have := hb i b hi
      unfold blkE at this
      split at this
      · rename_i h2; exact absurd this h2
      · rename_i h2; exact ⟨Classical.not_not.1 h2, this⟩
    refine ⟨fun b hm => ?_, fun i b p hi hp => ?_, fun b hm x hx => ?_⟩
    · obtain ⟨k, hk⟩ := List.mem_iff_getElem?.1 hm
      exact end_ok (firstE_zero (Classical.not_not.1 h1) hk)
    · obtain ⟨k, hk⟩ := List.mem_iff_getElem?.1 hp
      exact firstE_zero (hb2 i b hi).1 hk
    · obtain ⟨k, hk⟩ := List.mem_iff_getElem?.1 hm
      obtain ⟨j, hj⟩ := List.mem_iff_getElem?.1 hx
      exact ins_ok (firstE_zero (hb2 k b hk).2 hj)
/-- What clash.Fault says. -/
def clashF (gs : List Glob) (fs : List FunU) (k : Int) : Int × Int :=
  if (unitF gs fs).1 ≠ 0 then unitF gs fs else if ¬ (0 ≤ k ∧ k < fs.length) then (3, -1)
  else if ((fs.getD k.toNat ⟨⟨#[]⟩, 0, 0, []⟩).blocks.any fun b => decide (0 < b.phis.length)) = true then (11, k) else (0, 0)
theorem clashF_zero {gs : List Glob} {fs : List FunU} {k : Int} (h : (clashF gs fs k).1 = 0) : clashF gs fs k = (0, 0) ∧ UnitOk gs fs ∧ ∃ f, fs[k.toNat]? = some f ∧ 0 ≤ k ∧ k < fs.length ∧ (∀ b ∈ f.blocks, b.phis = []) ∧ HeadOk f ∧ BodyOk (fs.map FunU.params) f := by
  unfold clashF at *
  split at h
  · rename_i h1; exact absurd h h1
  · rename_i h1
    split at h
    · cases h
    · rename_i h2
      split at h
      · cases h
      · rename_i h3
        rw [if_neg h1, if_neg h2, if_neg h3]
        have h2' := Classical.not_not.1 h2
        have hu := unit_ok (Classical.not_not.1 h1)
        obtain ⟨f, hf⟩ : ∃ f, fs[k.toNat]? = some f := ⟨fs[k.toNat]'(by omega), List.getElem?_eq_getElem _⟩
        refine ⟨rfl, hu, f, hf, h2'.1, h2'.2, fun b hb => ?_, head_ok (hu.heads _ _ hf), body_ok (hu.bodies _ _ hf)⟩
        rw [List.getD_eq_getElem?_getD, hf, Option.getD_some] at h3
        have h4 : (f.blocks.any fun b => decide (0 < b.phis.length)) = false := by
          cases e : (f.blocks.any fun b => decide (0 < b.phis.length))
          · rfl
          · exact absurd e h3
        rw [List.any_eq_false] at h4
        have := h4 b hb
        simp only [decide_eq_true_eq] at this
        exact List.eq_nil_of_length_eq_zero (by omega)
/-- Where registers stand. -/
def occV (v : Opd) : List Int := if v.reg then [v.n] else []
def occVs (vs : List Opd) : List Int := (vs.map occV).flatten
def occI (x : InsU) : List Int := (if 0 ≤ x.dst then [x.dst] else []) ++ occV x.a ++ occV x.b ++ occVs x.args
def occIs (xs : List InsU) : List Int := (xs.map occI).flatten
def occB (b : BlkU) : List Int := occIs b.list ++ occV b.on
def occBs (bs : List BlkU) : List Int := (bs.map occB).flatten
theorem occVs_snoc {vs : List Opd} {k : Nat} {v : Opd} (h : vs[k]? = some v) : occVs (vs.take (k + 1)) = occVs (vs.take k) ++ occV v := by
  have hlt := (List.getElem?_eq_some_iff.1 h).1
  unfold occVs
  rw [List.take_succ_eq_append_getElem hlt, (List.getElem?_eq_some_iff.1 h).2]
  simp
theorem occIs_snoc {vs : List InsU} {k : Nat} {v : InsU} (h : vs[k]? = some v) : occIs (vs.take (k + 1)) = occIs (vs.take k) ++ occI v := by
  have hlt := (List.getElem?_eq_some_iff.1 h).1
  unfold occIs
  rw [List.take_succ_eq_append_getElem hlt, (List.getElem?_eq_some_iff.1 h).2]
  simp
theorem occBs_snoc {vs : List BlkU} {k : Nat} {v : BlkU} (h : vs[k]? = some v) : occBs (vs.take (k + 1)) = occBs (vs.take k) ++ occB v := by
  have hlt := (List.getElem?_eq_some_iff.1 h).1
  unfold occBs
  rw [List.take_succ_eq_append_getElem hlt, (List.getElem?_eq_some_iff.1 h).2]
  simp
theorem occV_len (v : Opd) : (occV v).length ≤ 1 := by unfold occV; split <;> simp
theorem occVs_len (vs : List Opd) : (occVs vs).length ≤ vs.length := by
  induction vs with
  | nil => simp [occVs]
  | cons v vs ih =>
    have := occV_len v
    unfold occVs at *
    simp only [List.map_cons, List.flatten_cons, List.length_append, List.length_cons]
    omega
/-- How often each register stands in a list. -/
def tally (n : Nat) (l : List Int) : List Int := (List.range n).map fun (r : Nat) => ((l.count ((r : Nat) : Int) : Nat) : Int)
theorem tally_len (n : Nat) (l : List Int) : (tally n l).length = n := by simp [tally]
theorem tally_at {n : Nat} {l : List Int} {r : Nat} (h : r < n) : (tally n l)[r]? = some (l.count (r : Int) : Int) := by
  unfold tally
  rw [List.getElem?_map, List.getElem?_range h]
  rfl
theorem tally_nil (n : Nat) : tally n [] = List.replicate n 0 := by
  unfold tally
  simp [List.map_const']
theorem tally_snoc {n : Nat} {l : List Int} {r : Nat} (h : r < n) : (tally n l).set r ((l.count (r : Int) : Int) + 1) = tally n (l ++ [(r : Int)]) := by
  apply List.ext_getElem?
  intro j
  rcases Nat.lt_or_ge j n with hj | hj
  · rw [List.getElem?_set, tally_at hj, tally_at hj]
    have e : (l ++ [(r : Int)]).count (j : Int) = l.count (j : Int) + if r = j then 1 else 0 := by
      rw [List.count_append, List.count_singleton]
      by_cases hr : r = j
      · simp [hr]
      · have : ¬ (r : Int) = (j : Int) := by omega
        simp [hr, this]
    rw [e]
    by_cases hr : r = j
    · subst hr
      rw [if_pos rfl, if_pos (by rw [tally_len]; exact h), if_pos rfl]
      simp
    · rw [if_neg hr, if_neg hr]
      simp
  · rw [List.getElem?_eq_none (by rw [List.length_set, tally_len]; exact hj), List.getElem?_eq_none (by rw [tally_len]; exact hj)]
theorem sum_tally {n : Nat} {l : List Int} (h : ∀ x ∈ l, 0 ≤ x ∧ x < n) : (tally n l).sum = l.length := by
  induction l with
  | nil => rw [tally_nil]; simp
  | cons x l ih =>
    have ih := ih fun y hy => h y (List.mem_cons_of_mem _ hy)
    obtain ⟨h0, h1⟩ := h x (List.mem_cons_self ..)
    have key : ∀ m : Nat, (tally m (x :: l)).sum = (tally m l).sum + if x < m then 1 else 0 := by
      intro m
      induction m with
      | zero => simp [tally]; omega
      | succ m ihm =>
        have e : ∀ l' : List Int, (tally (m + 1) l').sum = (tally m l').sum + (l'.count (m : Int) : Int) := by
          intro l'
          unfold tally
          rw [List.range_succ, List.map_append, List.sum_append]
          simp
        rw [e, e, ihm, List.count_cons]
        by_cases hx : x = (m : Int)
        · subst hx
          simp
          omega
        · have hb : (x == (m : Int)) = false := by simpa using hx
          rw [hb]
          simp only [Bool.false_eq_true, if_false, Nat.add_zero]
          by_cases hx2 : x < (m : Int)
          · rw [if_pos hx2, if_pos (by omega)]; omega
          · rw [if_neg hx2, if_neg (by omega)]; omega
    rw [key n, ih, if_pos h1]
    simp
theorem occI_len (x : InsU) : (occI x).length ≤ 3 + x.args.length := by
  have h1 := occV_len x.a
  have h2 := occV_len x.b
  have h3 := occVs_len x.args
  unfold occI
  simp only [List.length_append]
  split <;> simp only [List.length_cons, List.length_nil] <;> omega
theorem occIs_len {xs : List InsU} (h : ∀ x ∈ xs, x.args.length ≤ 6) : (occIs xs).length ≤ xs.length * 9 := by
  induction xs with
  | nil => simp [occIs]
  | cons x xs ih =>
    have h1 := occI_len x
    have h2 := h x (List.mem_cons_self ..)
    have h3 := ih fun y hy => h y (List.mem_cons_of_mem _ hy)
    unfold occIs at *
    simp only [List.map_cons, List.flatten_cons, List.length_append, List.length_cons]
    omega
theorem occBs_len {bs : List BlkU} (h : ∀ b ∈ bs, ∀ x ∈ b.list, x.args.length ≤ 6) : (occBs bs).length ≤ manyU bs * 9 + bs.length := by
  induction bs with
  | nil => simp [occBs]
  | cons b bs ih =>
    have h1 := occIs_len (h b (List.mem_cons_self ..))
    have h2 := occV_len b.on
    have h3 := ih fun y hy => h y (List.mem_cons_of_mem _ hy)
    unfold occBs manyU at *
    simp only [List.map_cons, List.flatten_cons, List.length_append, List.length_cons, List.sum_cons, occB]
    omega
theorem args_few {gs : List Glob} {fs : List FunU} {f : FunU} {i : Nat} (hu : UnitOk gs fs) (hf : fs[i]? = some f) : ∀ b ∈ f.blocks, ∀ x ∈ b.list, x.args.length ≤ 6 := by
  intro b hb x hx
  have hx := (body_ok (hu.bodies _ _ hf)).list b hb x hx
  by_cases h20 : x.op = 20
  · obtain ⟨h0, h1, h2⟩ := hx.call h20
    rw [List.length_map] at h1
    obtain ⟨g, hg⟩ : ∃ g, fs[x.fn.toNat]? = some g := ⟨fs[x.fn.toNat]'(by omega), List.getElem?_eq_getElem _⟩
    have := (head_ok (hu.heads _ _ hg)).p1
    rw [List.getD_eq_getElem?_getD, List.getElem?_map, hg] at h2
    simp only [Option.map_some, Option.getD_some] at h2
    omega
  · rw [(hx.plain h20).2]
    simp
theorem occ_few {gs : List Glob} {fs : List FunU} {f : FunU} {i : Nat} (hu : UnitOk gs fs) (hf : fs[i]? = some f) : (occBs f.blocks).length ≤ 2740 := by
  have h1 := occBs_len (args_few hu hf)
  have h2 := head_ok (hu.heads _ _ hf)
  have := h2.many
  have := h2.b1
  omega
theorem occ_in {gs : List Glob} {fs : List FunU} {f : FunU} {i : Nat} (hu : UnitOk gs fs) (hf : fs[i]? = some f) : ∀ x ∈ occBs f.blocks, 0 ≤ x ∧ x < f.regs := by
  intro x hx
  have hb := body_ok (hu.bodies _ _ hf)
  have hv : ∀ v : Opd, (v.reg = true → 0 ≤ v.n ∧ v.n < f.regs) → ∀ y ∈ occV v, 0 ≤ y ∧ y < f.regs := by
    intro v h y hy
    unfold occV at hy
    split at hy
    · rename_i hr
      simp only [List.mem_cons, List.not_mem_nil, or_false] at hy
      subst hy
      exact h hr
    · cases hy
  unfold occBs at hx
  obtain ⟨l, hl, hxl⟩ := List.mem_flatten.1 hx
  obtain ⟨b, hbm, rfl⟩ := List.mem_map.1 hl
  unfold occB at hxl
  rcases List.mem_append.1 hxl with h | h
  · unfold occIs at h
    obtain ⟨l', hl', hxl'⟩ := List.mem_flatten.1 h
    obtain ⟨y, hy, rfl⟩ := List.mem_map.1 hl'
    have ho := hb.list b hbm y hy
    unfold occI at hxl'
    rcases List.mem_append.1 hxl' with h' | h'
    · rcases List.mem_append.1 h' with h' | h'
      · rcases List.mem_append.1 h' with h' | h'
        · split at h'
          · simp only [List.mem_cons, List.not_mem_nil, or_false] at h'
            subst h'
            rcases ho.dst with h0 | h0
            · omega
            · exact h0.2
          · cases h'
        · exact hv _ ho.a x h'
      · exact hv _ ho.b x h'
    · unfold occVs at h'
      obtain ⟨l2, hl2, hx2⟩ := List.mem_flatten.1 h'
      obtain ⟨v, hvm, rfl⟩ := List.mem_map.1 hl2
      exact hv _ (ho.args v hvm) x hx2
  · exact hv _ (hb.ends b hbm).on x h
end Go.Proofs.YtiknhfbkphoceaaGreatDoor
