/-
  Texts of the claim AsmWholeSays (ByC KtP KtC): what each proves stands at its theorems.
  Conditions: as the theorems say.
-/
import Derived.StillTailTactics
import Derived.Maps.AppendAt
import Derived.Deep.RegionLaw
import Derived.Deep.AppendLies
import Derived.Deep.DeepCutAuto
import Derived.Deep.RegionHeld3
import Derived.Deep.DrawnRows
import Derived.Test.YtdldochhondifaaGreatDoorVKitD
namespace Go.Proofs.YtdldochhondifaaGreatDoor
open Go.RowKit

/-- The registers that an instruction speaks of. -/
def regsS (m : Mac) : List Int := (if shD m.op then [m.dst] else []) ++ (if shA m.op then [m.a] else []) ++ (if shB m.op then [m.b] else [])
/-- Two by two to a byte. -/
def packS : List Int → List Int
  | [] => []
  | [x] => [x]
  | x :: y :: l => (16 * x + y) :: packS l
def codeS (m : Mac) : List Int := m.op :: (packS (regsS m) ++ if shK m.op = 0 then [] else numS (foldS m.n))
theorem pack_end (rs : List Int) (k : Nat) (h : rs.length ≤ k) : packS (rs.drop k) = [] := by rw [List.drop_eq_nil_of_le h]; rfl
theorem drop_one {rs : List Int} {k : Nat} {x : Int} (h : rs[k]? = some x) (hl : k + 1 = rs.length) : rs.drop k = [x] := by
  have hk : k < rs.length := by omega
  rw [List.drop_eq_getElem_cons hk, List.drop_eq_nil_of_le (by omega)]
  rw [List.getElem?_eq_getElem hk] at h
  cases h
  rfl
theorem drop_two {rs : List Int} {k : Nat} {x y : Int} (h : rs[k]? = some x) (h' : rs[k + 1]? = some y) : rs.drop k = x :: y :: rs.drop (k + 2) := by
  have hk' : k + 1 < rs.length := (List.getElem?_eq_some_iff.1 h').1
  have hk : k < rs.length := by omega
  rw [List.drop_eq_getElem_cons hk, List.drop_eq_getElem_cons hk']
  rw [List.getElem?_eq_getElem hk] at h
  rw [List.getElem?_eq_getElem hk'] at h'
  cases h
  cases h'
  rfl
theorem regs_len (m : Mac) : (regsS m).length ≤ 3 := by unfold regsS; split <;> split <;> split <;> simp
theorem regs_in (m : Mac) (h : RegsOk m) : ∀ x ∈ regsS m, 0 ≤ x ∧ x < 16 := by
  obtain ⟨h1, h2, h3⟩ := h
  intro x hx
  unfold regsS at hx
  simp only [List.mem_append] at hx
  rcases hx with (hx | hx) | hx
  · split at hx
    · rw [List.mem_singleton.1 hx]; exact h1 ‹_›
    · cases hx
  · split at hx
    · rw [List.mem_singleton.1 hx]; exact h2 ‹_›
    · cases hx
  · split at hx
    · rw [List.mem_singleton.1 hx]; exact h3 ‹_›
    · cases hx
theorem pack_len : ∀ rs : List Int, (packS rs).length ≤ rs.length
  | [] => by simp [packS]
  | [x] => by simp [packS]
  | x :: y :: l => by have := pack_len l; simp [packS]; omega
theorem OwnInts.snoc {w : World} {base : Nat} {v : Value} {xs : List Int} {x : Int} (h : w.ownsRow base 3 1 v (xs.length + 1) (xs.map (Value.int .i64) ++ [.int .i64 x])) : OwnInts w base v (xs ++ [x]) := by
  unfold OwnInts
  rw [List.length_append, List.map_append]
  exact h
theorem OwnB.snoc {w : World} {base : Nat} {v : Value} {xs : List Int} {x : Int} (h : w.ownsRow base 5 1 v (xs.length + 1) (xs.map (Value.int .u8) ++ [.int .u8 x])) : OwnB w base v (xs ++ [x]) := by
  unfold OwnB
  rw [List.length_append, List.map_append]
  exact h
theorem OwnInts.more {w : World} {base base' : Nat} {v : Value} {xs : List Int} (h : OwnInts w base v xs) (hb : base' ≤ base) : OwnInts w base' v xs := by
  obtain ⟨h1, h2⟩ := h
  refine ⟨h1, ?_⟩
  rcases h2 with h2 | ⟨g, cap, cur, e, hg, h3⟩
  · exact .inl h2
  · exact .inr ⟨g, cap, cur, e, by omega, h3⟩

theorem own_blk {w : World} {g base : Nat} {x : Int} (h : Blk w g 5 #[.int .u8 x]) (hb : base ≤ g) : OwnB w base (.slice (some ⟨g, 0, none⟩) 1 1) [x] :=
  ⟨rfl, .inr ⟨g, 1, #[.int .u8 x], rfl, hb, h, Nat.le_refl _, by unfold maxLen; omega, rfl, rfl⟩⟩
theorem own_someI {w : World} {base : Nat} {v : Value} {xs : List Int} (h : OwnInts w base v xs) (hx : 0 < xs.length) : ∃ g cap, v = .slice (some ⟨g, 0, none⟩) xs.length cap ∧ base ≤ g := by
  rcases h.2 with ⟨_, h0⟩ | ⟨g, cap, cur, e, hg, _⟩
  · omega
  · exact ⟨g, cap, e, hg⟩
theorem own_cell {w : World} {base g n cap : Nat} {xs : List Int} (h : OwnInts w base (.slice (some ⟨g, 0, none⟩) n cap) xs) {k : Nat} {x : Int} (hk : xs[k]? = some x) : w.cell? ⟨g, k, none⟩ = some (.int .i64 x) := by
  have := World.ownsRow.cells h rfl k (.int .i64 x) (by rw [List.getElem?_map, hk]; rfl)
  unfold Addr.add at this
  split at this <;> simp_all
/-- The loop that packs the registers: so far pre, what is left stands from k on. -/
def packRel (W : World) (B : Nat) (op : Int) (rs : List Int) (u : Value) (v i : Value) (wr : World) : Prop :=
  ∃ (k : Nat) (pre : List Int), i = .int .i64 k ∧ k ≤ 4 ∧ Hid (packS rs = pre ++ packS (rs.drop k)) ∧ Hid (pre.length ≤ k) ∧ Hid (Below B W wr) ∧ Hid (OwnB wr B v (op :: pre)) ∧ Hid (OwnInts wr B u rs) ∧ Hid (∀ g, v.ownBlock = some g → u.ownBlock ≠ some g)
theorem below_drew {B : Nat} {a w : World} (h : Below B a w) : Below B a w.drew := ⟨h.os, h.tape, h.output, h.size, h.block⟩
theorem own_form {w : World} {base : Nat} {v : Value} {xs : List Int} (h : OwnInts w base v xs) : ∃ A cap, v = .slice A xs.length cap := by
  rcases h.2 with ⟨e, h0⟩ | ⟨g, cap, cur, e, hg, _⟩
  · exact ⟨none, 0, by rw [h0]; exact e⟩
  · exact ⟨_, cap, e⟩
theorem kind_cases (op : Int) : (hasS (fldS op) 110 = true ∧ ¬ shK op = 0) ∨ (hasS (fldS op) 110 = false ∧ hasS (fldS op) 116 = true ∧ ¬ shK op = 0) ∨
    (hasS (fldS op) 110 = false ∧ hasS (fldS op) 116 = false ∧ hasS (fldS op) 119 = true ∧ ¬ shK op = 0) ∨
    (hasS (fldS op) 110 = false ∧ hasS (fldS op) 116 = false ∧ hasS (fldS op) 119 = false ∧ hasS (fldS op) 114 = true ∧ ¬ shK op = 0) ∨
    (hasS (fldS op) 110 = false ∧ hasS (fldS op) 116 = false ∧ hasS (fldS op) 119 = false ∧ hasS (fldS op) 114 = false ∧ shK op = 0) := by
  unfold shK
  cases hasS (fldS op) 110 <;> cases hasS (fldS op) 116 <;> cases hasS (fldS op) 119 <;> cases hasS (fldS op) 114 <;> simp
theorem MacAt.row {w : World} {b : Nat} {m : Mac} (h : MacAt w b 0 m) : w.cell? ⟨b, 1, none⟩ = some (.int .i64 m.dst) ∧ w.cell? ⟨b, 2, none⟩ = some (.int .i64 m.a) ∧ w.cell? ⟨b, 3, none⟩ = some (.int .i64 m.b) ∧ w.cell? ⟨b, 4, none⟩ = some (.int .i64 m.n) := by
  obtain ⟨_, h1, h2, h3, h4⟩ := h
  simp only [Nat.zero_add] at h1 h2 h3 h4
  exact ⟨h1, h2, h3, h4⟩

set_option maxRecDepth 100000 in
set_option maxHeartbeats 4000000 in
theorem MacBytes_any (op dst a b n : Int) (w : World) (ho : isOp op = true) (hr : RegsOk ⟨op, dst, a, b, n⟩) (hn : I64 n) :
    Calls Tryz.prog 89 #[.agg #[.int .i64 op, .int .i64 dst, .int .i64 a, .int .i64 b, .int .i64 n]] w fun e w' => ∃ v, e = .returned v ∧ OwnB w' (w.heap.size + 1) v (codeS ⟨op, dst, a, b, n⟩) ∧ Below w.heap.size w w' := by
  obtain ⟨i0, hi, hz0, hz1, hz2⟩ := info_parts infoByte
  obtain ⟨j0, hj, hy0, hy1, hy2⟩ := info_parts infoInt
  have HZ := Lib.hid (fld_ok op)
  have HR := Lib.hid (regs_in _ hr)
  have HN := Lib.hid hn
  have h47 : op % 256 = op := by rw [isOp_iff] at ho; omega
  clear ho hr hn
  rcases Bool.eq_false_or_eq_true (shD op) with hD | hD <;> rcases Bool.eq_false_or_eq_true (shA op) with hA | hA <;> rcases Bool.eq_false_or_eq_true (shB op) with hB | hB
  all_goals
    have HE : Hid (regsS ⟨op, dst, a, b, n⟩ = _) := Lib.hid (by unfold regsS; rw [hD, hA, hB])
    simp only [Bool.false_eq_true, if_true, if_false, List.nil_append, List.append_nil] at HE
    have xD : hasS (fldS op) 100 = shD op := rfl
    have xA : hasS (fldS op) 97 = shA op := rfl
    have xB : hasS (fldS op) 98 = shB op := rfl
    rw [hD] at xD
    rw [hA] at xA
    rw [hB] at xB
    clear hD hA hB
    go_enter Tryz.func89, Tryz.ntmps89
    go_wp2_with fail
    refine (Fields_any _ _).mono ?_
    rintro e w1 ⟨rfl, hb1⟩
    have hz : w.heap.size < w1.heap.size := by have := hb1.size; simp at this; omega
    have HC : Hid (MacAt (w1.alloc (.cells #[.int .u8 op] 5)) w.heap.size 0 ⟨op, dst, a, b, n⟩) := Lib.hid (by
      have hA0 : Below (w.heap.size + 1) w1 (w1.alloc (.cells #[.int .u8 op] 5)) := (Below.refl _ _).alloc (by omega) _
      refine MacAt.below ?_ hA0 (by omega)
      refine ⟨?_, ?_, ?_, ?_, ?_⟩ <;> (rw [bcell hb1 (by simp)]; simp))
    have HB1 : Hid (Below w.heap.size w (w1.alloc (.cells #[.int .u8 op] 5))) := Lib.hid ((((Below.refl _ _).alloc (Nat.le_refl _) _).trans (hb1.mono (by simp))).alloc (by omega) _)
    have HK : Hid (Blk (w1.alloc (.cells #[.int .u8 op] 5)) w1.heap.size 5 #[.int .u8 op]) := Lib.hid (Blk.new _ _ _)
    have hs1 : (w1.alloc (.cells #[.int .u8 op] 5)).heap.size = w1.heap.size + 1 := by simp
    have c0 : w1.cell? ⟨w.heap.size, 0, none⟩ = some (.int .i64 op) := by rw [bcell hb1 (by simp)]; simp
    clear hb1
    go_wp2_with fail
    generalize w1.alloc (.cells #[.int .u8 op] 5) = W at *
    clear c0
    generalize w1.heap.size = B at *
    have HOi : Hid (OwnInts W (B + 1) (.slice none 0 0) []) := Lib.hid (OwnInts.nil _ _)
    have HBf : Hid (Below (B + 1) W W) := Lib.hid (Below.refl _ _)
    have HS : Hid (B + 1 ≤ W.heap.size) := Lib.hid (by omega)
    clear hs1
    have ⟨d1, d2, d3, d4⟩ := HC.out.row
    clear d4
    go_wp2_with (first
      | (go_at_call 76; refine (Has_any _ _ _ HZ.out).mono ?_; rintro e w' ⟨rfl, rfl⟩)
      | (at_builtin; refine wpList_append_own _ rfl _ _ 29 rfl (B + 1) 3 j0 (.int .i64 0) 1 8 Tryz.underlying29 hj hy0 hy1 hy2 rfl (by decide) _ _ _ rfl (HOi.out.alloc _) _ 1 1 [.int .i64 _] rfl rfl (cell_one_new _ _ _) (fun x hx => by simp at hx; subst hx; rfl) (by unfold maxLen; simp) (by simp) (by have := HS.out; simp only [World.size_alloc]; omega) ?_
         intro v' w3 hown' hgrow3 hnil3
         have HBf := Lib.hid ((HBf.out.alloc HS.out _).grown hgrow3 (by have := HS.out; simp only [World.size_alloc]; omega) (own_block_ge HOi.out))
         have HS : Hid (B + 1 ≤ w3.heap.size) := Lib.hid (by have := hgrow3.size; have := HS.out; simp only [World.size_alloc] at *; omega)
         have HOi := Lib.hid (OwnInts.snoc hown')
         have ⟨d1, d2, d3, d4⟩ := (HC.out.below HBf.out (by omega)).row
         clear d4 hown' hgrow3 hnil3))
    have hz3 := regs_len ⟨op, dst, a, b, n⟩
    have HS0 := HS
    clear d1 d2 d3 xD xA xB
    first
      | go_loopw [4, 6] (packRel W B op (regsS ⟨op, dst, a, b, n⟩) v') (fun _ i _ => 5 - (intOf i).toNat)
      | go_loopw [4, 6] (packRel W B op (regsS ⟨op, dst, a, b, n⟩) (.slice none 0 0)) (fun _ i _ => 5 - (intOf i).toNat)
    case atStart =>
      refine ⟨0, [], rfl, by omega, Lib.hid rfl, Lib.hid (Nat.le_refl _), Lib.hid (HBf.out.mono (by omega)), Lib.hid (own_blk (HK.out.below HBf.out (by omega)) (Nat.le_refl _)), Lib.hid (by rw [HE.out]; exact HOi.out.more (by omega)), Lib.hid (fun g hg h => ?_)⟩
      cases hg
      first
        | cases h
        | exact absurd (show B + 1 ≤ B from own_block_ge HOi.out _ h) (by omega)
    case round =>
      obtain ⟨k, pre, rfl, hk, HP, HPl, HBw, HOb, HOu, HDj⟩ := hrel
      clear HOi HBf HS HS0 HE
      generalize hrs : regsS ⟨op, dst, a, b, n⟩ = rs at *
      have Hrs := Lib.hid hrs
      clear hrs
      have hBz : B ≤ wr.heap.size := by have := HBw.out.size; have := HK.out.lt; omega
      by_cases hlt : k < rs.length
      · obtain ⟨g, cap, hu, hg⟩ := own_someI HOu.out (by omega)
        first | subst hu | cases hu
        all_goals
          obtain ⟨x, hx⟩ : ∃ x, rs[k]? = some x := ⟨rs[k], List.getElem?_eq_getElem hlt⟩
          have cx : wr.cell? ⟨g, k, none⟩ = some (.int .i64 x) := own_cell HOu.out hx
          have hx16 := HR.out x (List.mem_of_getElem? hx)
          have Hx := Lib.hid hx
          have hx256 : x % 256 = x := by omega
          clear hx
          by_cases h1 : k + 1 = rs.length
          · have hb1 : ((k : Int) + 1 == (rs.length : Int)) = true := by simp; omega
            have hl : (op :: pre).length ≤ 5 := by have := HPl.out; simp; omega
            go_wp2_with (at_builtin; refine wpList_append_own_at _ rfl _ _ 72 rfl B 5 i0 (.int .u8 0) 1 1 Tryz.underlying72 hi hz0 hz1 hz2 rfl (by decide) _ _ _ rfl (HOb.out.alloc _) _ 1 1 [.int .u8 _] rfl rfl (cell_one_new _ _ _) (fun x hx => by simp at hx; subst hx; rfl) (by unfold maxLen; omega) (by omega) (by simp only [World.size_alloc]; omega) ?_; intro v2 w3 hown' hgrow3 hnil3 hat3; have HO' := Lib.hid hown'; have HG' := Lib.hid hgrow3; have HA' := Lib.hid hat3; clear hown' hgrow3 hnil3 hat3)
            go_roundw
            case rel =>
              refine ⟨k + 2, pre ++ [x], by go_num, by omega, Lib.hid ?_, Lib.hid ?_, Lib.hid ((HBw.out.alloc hBz _).grown HG'.out (by simp only [World.size_alloc]; omega) (own_block_ge HOb.out)), Lib.hid (OwnB.snoc HO'.out), Lib.hid (World.ownsRow.kept (World.ownsRow.alloc HOu.out _) HG'.out (.inr fun h => HDj.out _ h.symm rfl)), Lib.hid ?_⟩
              · rw [HP.out, drop_one Hx.out h1, List.drop_eq_nil_of_le (by omega), List.append_assoc]
                rfl
              · have := HPl.out
                simp
                omega
              · intro g' h1 h2
                rcases HA'.out with h | h
                · rw [h] at h1
                  exact HDj.out _ h1 h2
                · rw [h] at h1
                  cases h1
                  have := (World.ownsRow.lt HOu.out _ h2).2
                  simp only [World.size_alloc] at this
                  omega
            case measure => simp [intOf]; omega
          · have hb1 : ((k : Int) + 1 == (rs.length : Int)) = false := by simp; omega
            obtain ⟨y, hy⟩ : ∃ y, rs[k + 1]? = some y := ⟨rs[k + 1], List.getElem?_eq_getElem (by omega)⟩
            have cy : wr.cell? ⟨g, k + 1, none⟩ = some (.int .i64 y) := own_cell HOu.out hy
            have hy16 := HR.out y (List.mem_of_getElem? hy)
            have Hy := Lib.hid hy
            have hk0 : (0 : Int) ≤ (k : Int) := by omega
            have hk1 : (k : Int) < (rs.length : Int) := by omega
            have hk2 : (k : Int) + 1 < (rs.length : Int) := by omega
            have hk3 : (0 : Int) ≤ (k : Int) + 1 := by omega
            have hkt : ((k : Int) + 1).toNat = k + 1 := by omega
            have hw1 : IntKind.i64.wrap ((k : Int) + 1) = (k : Int) + 1 := by rw [IntKind.wrap_i64]; omega
            have hw2 : IntKind.i64.wrap (16 * x) = 16 * x := by rw [IntKind.wrap_i64]; omega
            have hw3 : IntKind.i64.wrap (16 * x + y) = 16 * x + y := by rw [IntKind.wrap_i64]; omega
            have hw4 : IntKind.u8.wrap (16 * x + y) = 16 * x + y := by rw [IntKind.wrap_u8]; omega
            have hxy : (16 * x + y) % 256 = 16 * x + y := by omega
            have hl : (op :: pre).length ≤ 5 := by have := HPl.out; simp; omega
            clear hy
            go_wp2_with fail
            go_region_law (refine step_append_lies _ rfl (.tmp 54) (.tmp 67) 72 rfl B 5 i0 (.int .u8 0) 1 1 Tryz.underlying72 hi hz0 hz1 hz2 rfl (by decide) u4 (op :: pre).length ((op :: pre).map (Value.int .u8)) (by simp [Act.eval]) (World.ownsRow.alloc (World.ownsRow.drew HOb.out) _) ⟨wr.heap.size, 0, none⟩ 1 1 [.int .u8 (16 * x + y)] (by simp [Act.eval]) rfl (cell_one_new _ _ _) (fun x hx => by simp at hx; subst hx; rfl) (by omega) (by unfold maxLen; omega) (by omega) (by simp; omega) _ rfl ?_; intro g' cap' w3 hown' hgrow3 hat3 hlt3; have HO' := Lib.hid hown'; have HG' := Lib.hid hgrow3; have HA' := Lib.hid hat3; clear hown' hgrow3 hat3 hlt3)
            all_goals
              go_wp2_with fail
              go_roundw
              case rel =>
                refine ⟨k + 2, pre ++ [16 * x + y], by go_num, by omega, Lib.hid ?_, Lib.hid ?_, Lib.hid ((below_drew (HBw.out.alloc hBz _)).grown HG'.out (by simp; omega) (own_block_ge HOb.out)), Lib.hid (OwnB.snoc HO'.out), Lib.hid (World.ownsRow.kept (World.ownsRow.drew (World.ownsRow.alloc HOu.out _)) HG'.out (.inr fun h => HDj.out _ h.symm rfl)), Lib.hid ?_⟩
                · rw [HP.out, drop_two Hx.out Hy.out, List.append_assoc]
                  rfl
                · have := HPl.out
                  simp
                  omega
                · intro g2 h1 h2
                  have e1 : g' = g2 := by simpa [Value.ownBlock] using h1
                  have h3 : g < wr.heap.size := (World.ownsRow.lt HOu.out g rfl).2
                  have e2 : g = g2 := by simpa [Value.ownBlock] using h2
                  rcases HA'.out with h | h
                  · exact HDj.out _ h (h2.trans (by rw [e1]))
                  · simp at h
                    omega
              case measure => simp [intOf]; omega
      · have HPE : Hid (packS rs = pre) := Lib.hid (by rw [HP.out, pack_end rs k (by omega), List.append_nil])
        have ⟨f1, f2, f3, d4⟩ := (HC.out.below HBw.out (by omega)).row
        have HB2 : Hid (Below w.heap.size w wr) := Lib.hid (HB1.out.trans (HBw.out.mono (by omega)))
        have hl : (op :: pre).length ≤ 5 := by have := HPl.out; simp; omega
        clear f1 f2 f3
        obtain ⟨A, cap, hu⟩ := own_form HOu.out
        have hk1 : ¬ (k : Int) < (rs.length : Int) := by omega
        have hk2 : ¬ (k : Int) < 0 := by omega
        first | subst hu | clear hu
        rcases kind_cases op with ⟨q1, hK⟩ | ⟨q1, q2, hK⟩ | ⟨q1, q2, q3, hK⟩ | ⟨q1, q2, q3, q4, hK⟩ | ⟨q1, q2, q3, q4, hK⟩
        case inr.inr.inr.inr =>
          have HK0 := Lib.hid hK
          clear hK
          go_wp2_with (go_at_call 76; refine (Has_any _ _ _ HZ.out).mono ?_; rintro e w' ⟨rfl, rfl⟩)
          go_ret
          refine ⟨_, rfl, ?_, HB2.out⟩
          unfold codeS
          rw [Hrs.out, HPE.out, if_pos HK0.out, List.append_nil]
          exact HOb.out.more (by omega)
        all_goals
          have HK0 := Lib.hid hK
          clear hK
          go_wp2_with (go_at_call 76; refine (Has_any _ _ _ HZ.out).mono ?_; rintro e w' ⟨rfl, rfl⟩)
          refine (Folded_any n _ HN.out).mono ?_
          rintro e w' ⟨rfl, rfl⟩
          go_wp2_with fail
          refine (RNumber_any (foldS n) _ (foldS_lt n HN.out) (numS_len64 _ (foldS_lt n HN.out))).mono ?_
          rintro e w4 ⟨vn, rfl, ho4, hb4⟩
          obtain ⟨g4, cap4, rfl, hg4⟩ := own_some ho4 (numS_pos _)
          have HO4 := Lib.hid (HOb.out.below hb4 rfl)
          have HN4 := Lib.hid (World.ownsRow.cells ho4 rfl)
          have HB4 := Lib.hid (HB2.out.trans (hb4.mono HB2.out.size))
          have hz4 := hb4.size
          have hl4 := numS_len64 _ (foldS_lt n HN.out)
          have hp4 := numS_pos (foldS n)
          clear ho4 hb4 d4
          go_wp2_with (at_builtin; refine wpList_append_own _ rfl _ _ 72 rfl B 5 i0 (.int .u8 0) 1 1 Tryz.underlying72 hi hz0 hz1 hz2 rfl (by decide) _ _ _ rfl HO4.out ⟨g4, 0, none⟩ (numS (foldS n)).length _ ((numS (foldS n)).map (Value.int .u8)) rfl (by simp) HN4.out (fun x hx => by obtain ⟨y, _, rfl⟩ := List.mem_map.1 hx; rfl) (by unfold maxLen; omega) (by omega) (by omega) ?_; intro v' w3 hown' hgrow3 hnil3; have HO' := Lib.hid hown'; have HG' := Lib.hid hgrow3; clear hown' hgrow3 hnil3)
          go_ret
          refine ⟨_, rfl, ?_, HB4.out.grown HG'.out (by have := HB2.out.size; omega) (fun q hq => by have := own_block_ge HO4.out q hq; omega)⟩
          unfold codeS
          rw [Hrs.out, HPE.out, if_neg HK0.out, ← List.cons_append]
          refine OwnB.more ?_ (show w.heap.size + 1 ≤ B by omega)
          unfold OwnB
          rw [List.length_append, List.map_append]
          exact HO'.out
end Go.Proofs.YtdldochhondifaaGreatDoor
namespace Go.Proofs.YtdldochhondifaaGreatDoor
open Go.RowKit

/-- A number read from its digit i on. -/
def rnS (i : Nat) : List Int → Option (Nat × List Int)
  | [] => none
  | d :: l =>
    if 9 < i ∨ (i = 9 ∧ 1 < d) ∨ (d = 0 ∧ 0 < i) then none
    else if d < 128 then some (d.toNat * 128 ^ i, l)
    else match rnS (i + 1) l with
      | none => none
      | some (n, l') => some ((d - 128).toNat * 128 ^ i + n, l')
/-- All are bytes. -/
def BytesOk (l : List Int) : Prop := ∀ x ∈ l, 0 ≤ x ∧ x < 256
theorem pow128 : (128 : Nat) ^ 9 = 9223372036854775808 := by decide
theorem rn_back : ∀ (l : List Int) (i n : Nat) (l' : List Int), BytesOk l → rnS i l = some (n, l') → ∃ m, n = m * 128 ^ i ∧ l = numS m ++ l' ∧ (0 < i → 0 < m) ∧ i ≤ 9 ∧ m * 128 ^ i < 18446744073709551616
  | [], i, n, l', _, h => by unfold rnS at h; cases h
  | d :: l, i, n, l', hb, h => by
    have hd := hb d (by simp)
    unfold rnS at h
    split at h
    · cases h
    rename_i hc
    have h9 : i ≤ 9 := by omega
    have hp : 128 ^ i ≤ 128 ^ 9 := Nat.pow_le_pow_right (by decide) h9
    rw [pow128] at hp
    split at h
    · rename_i hlt
      simp only [Option.some.injEq, Prod.mk.injEq] at h
      obtain ⟨rfl, rfl⟩ := h
      refine ⟨d.toNat, rfl, ?_, by omega, h9, ?_⟩
      · rw [numS_small _ (by omega)]
        simp
        omega
      · rcases Nat.lt_or_ge i 9 with h8 | h8
        · have h1 : 128 ^ i ≤ 128 ^ 8 := Nat.pow_le_pow_right (by decide) (by omega)
          have h2 : 128 ^ 8 = 72057594037927936 := by decide
          have h3 : d.toNat * 128 ^ i ≤ 127 * 128 ^ i := Nat.mul_le_mul_right _ (by omega)
          omega
        · obtain rfl : i = 9 := by omega
          rw [pow128]
          omega
    · rename_i hge
      have h8 : i < 9 := by omega
      split at h
      · cases h
      rename_i q l'' hq
      simp only [Option.some.injEq, Prod.mk.injEq] at h
      obtain ⟨rfl, rfl⟩ := h
      obtain ⟨m, rfl, rfl, hm, hi9, hlt⟩ := rn_back l (i + 1) q l'' (fun x hx => hb x (by simp [hx])) hq
      have hd' : ((d - 128).toNat + 128 * m) * 128 ^ i = (d - 128).toNat * 128 ^ i + m * 128 ^ (i + 1) := by
        rw [Nat.pow_succ, Nat.add_mul, Nat.mul_comm (128 ^ i) 128, ← Nat.mul_assoc, Nat.mul_comm m 128]
      refine ⟨(d - 128).toNat + 128 * m, hd'.symm, ?_, by omega, by omega, ?_⟩
      · have := hm (by omega)
        rw [numS_big ((d - 128).toNat + 128 * m) (by omega), show ((d - 128).toNat + 128 * m) / 128 = m by omega, List.cons_append]
        congr 1
        omega
      · rw [hd']
        have h1 : (d - 128).toNat * 128 ^ i < 128 ^ (i + 1) := by
          rw [Nat.pow_succ, Nat.mul_comm (128 ^ i) 128]
          exact Nat.mul_lt_mul_of_pos_right (by omega) (Nat.pow_pos (by decide))
        have h2 : 18446744073709551616 = 128 ^ (i + 1) * (2 * 128 ^ (8 - i)) := by
          rw [Nat.mul_left_comm, ← Nat.pow_add, show i + 1 + (8 - i) = 9 by omega]
        rw [h2] at hlt ⊢
        rw [Nat.mul_comm m] at hlt ⊢
        have h3 := Nat.lt_of_mul_lt_mul_left hlt
        have h4 : 128 ^ (i + 1) * (m + 1) ≤ 128 ^ (i + 1) * (2 * 128 ^ (8 - i)) := Nat.mul_le_mul_left _ h3
        rw [Nat.mul_add] at h4
        omega

/-- The number that was folded. -/
def unfoldS (n : Nat) : Int := if n % 2 = 1 then -((n / 2 : Nat) : Int) - 1 else ((n / 2 : Nat) : Int)
theorem fold_unfold (n : Nat) : foldS (unfoldS n) = n := by
  unfold unfoldS foldS
  split <;> split <;> omega
theorem unfold_i64 (n : Nat) (h : n < 18446744073709551616) : I64 (unfoldS n) := by
  unfold unfoldS I64
  split <;> omega

/-- So many registers read. -/
def rregS : Nat → List Int → Option (List Int × List Int)
  | 0, l => some ([], l)
  | 1, [] => none
  | 1, x :: l => if 15 < x then none else some ([x], l)
  | _ + 2, [] => none
  | k + 2, x :: l => match rregS k l with
    | none => none
    | some (rs, l') => some (x / 16 :: x % 16 :: rs, l')
theorem rreg_back : ∀ (k : Nat) (l rs l' : List Int), BytesOk l → rregS k l = some (rs, l') → l = packS rs ++ l' ∧ rs.length = k ∧ ∀ x ∈ rs, 0 ≤ x ∧ x < 16
  | 0, l, rs, l', _, h => by
    simp only [rregS, Option.some.injEq, Prod.mk.injEq] at h
    obtain ⟨rfl, rfl⟩ := h
    exact ⟨rfl, rfl, fun x hx => by cases hx⟩
  | 1, [], rs, l', _, h => by cases h
  | 1, x :: l, rs, l', hb, h => by
    have hx := hb x (by simp)
    simp only [rregS] at h
    split at h
    · cases h
    simp only [Option.some.injEq, Prod.mk.injEq] at h
    obtain ⟨rfl, rfl⟩ := h
    exact ⟨rfl, rfl, fun y hy => by rw [List.mem_singleton.1 hy]; omega⟩
  | k + 2, [], rs, l', _, h => by cases h
  | k + 2, x :: l, rs, l', hb, h => by
    have hx := hb x (by simp)
    simp only [rregS] at h
    split at h
    · cases h
    rename_i rs2 l2 hq
    simp only [Option.some.injEq, Prod.mk.injEq] at h
    obtain ⟨rfl, rfl⟩ := h
    obtain ⟨e, hl, hr⟩ := rreg_back k l rs2 l2 (fun y hy => hb y (by simp [hy])) hq
    refine ⟨?_, by simp [hl], fun y hy => ?_⟩
    · rw [e]
      show _ = (16 * (x / 16) + x % 16) :: (packS rs2 ++ l2)
      congr 1
      omega
    · simp only [List.mem_cons] at hy
      rcases hy with rfl | rfl | hy
      · omega
      · omega
      · exact hr y hy
/-- How many registers an Op speaks of. -/
def manyS (op : Int) : Nat := (if shD op then 1 else 0) + (if shA op then 1 else 0) + (if shB op then 1 else 0)
/-- The instruction of an Op, its registers and its number. -/
def putRegs (op : Int) (rs : List Int) (n : Int) : Mac :=
  let r1 := if shD op then rs.tail else rs
  let r2 := if shA op then r1.tail else r1
  ⟨op, if shD op then rs.headD 0 else 0, if shA op then r1.headD 0 else 0, if shB op then r2.headD 0 else 0, n⟩
theorem regs_put (op : Int) (rs : List Int) (n : Int) (h : rs.length = manyS op) : regsS (putRegs op rs n) = rs := by
  unfold manyS at h
  unfold regsS putRegs
  cases hd : shD op <;> cases ha : shA op <;> cases hb : shB op <;> simp only [hd, ha, hb] at h ⊢
  all_goals
    match rs, h with
    | [], h => first | rfl | (simp at h)
    | [x], h => first | rfl | (simp at h)
    | [x, y], h => first | rfl | (simp at h)
    | [x, y, z], h => first | rfl | (simp at h)
    | _ :: _ :: _ :: _ :: _, h => exact absurd h (by simp; try omega)
/-- What is not spoken of is 0. -/
def ZeroOk (m : Mac) : Prop := (shD m.op = false → m.dst = 0) ∧ (shA m.op = false → m.a = 0) ∧ (shB m.op = false → m.b = 0) ∧ (shK m.op = 0 → m.n = 0)
/-- An instruction read. -/
def readS : List Int → Option (Mac × List Int)
  | [] => none
  | op :: l => if isOp op then match rregS (manyS op) l with
      | none => none
      | some (rs, l') => if shK op = 0 then some (putRegs op rs 0, l') else match rnS 0 l' with
        | none => none
        | some (n, l'') => some (putRegs op rs (unfoldS n), l'')
    else none
theorem read_back (l : List Int) (m : Mac) (l' : List Int) (hb : BytesOk l) (h : readS l = some (m, l')) : l = codeS m ++ l' ∧ isOp m.op = true ∧ RegsOk m ∧ I64 m.n ∧ ZeroOk m := by
  match l, h with
  | op :: l, h =>
    simp only [readS] at h
    split at h
    · rename_i ho
      split at h
      · cases h
      rename_i rs l2 hq
      obtain ⟨e, hl, hr⟩ := rreg_back _ _ _ _ (fun y hy => hb y (by simp [hy])) hq
      have hregs : ∀ n, regsS (putRegs op rs n) = rs := fun n => regs_put op rs n hl
      have rok : ∀ n, RegsOk (putRegs op rs n) := by
        intro n
        have hin : ∀ x ∈ regsS (putRegs op rs n), 0 ≤ x ∧ x < 16 := by rw [hregs]; exact hr
        unfold regsS at hin
        refine ⟨fun h => ?_, fun h => ?_, fun h => ?_⟩
        · have := hin (putRegs op rs n).dst (by simp [h])
          omega
        · have := hin (putRegs op rs n).a (by simp [h])
          omega
        · have := hin (putRegs op rs n).b (by simp [h])
          omega
      have zok : ∀ n, (shK op = 0 → n = 0) → ZeroOk (putRegs op rs n) := fun n hn =>
        ⟨fun h => by show (if shD op then _ else _) = _; rw [show shD op = false from h]; rfl, fun h => by show (if shA op then _ else _) = _; rw [show shA op = false from h]; rfl,
          fun h => by show (if shB op then _ else _) = _; rw [show shB op = false from h]; rfl, hn⟩
      split at h
      · rename_i hk
        simp only [Option.some.injEq, Prod.mk.injEq] at h
        obtain ⟨rfl, rfl⟩ := h
        refine ⟨?_, ho, rok 0, by unfold I64; show _ ≤ (0 : Int) ∧ (0 : Int) ≤ _; omega, zok 0 fun _ => rfl⟩
        unfold codeS
        rw [hregs, if_pos (show shK (putRegs op rs 0).op = 0 from hk), List.append_nil, e]
        rfl
      · rename_i hk
        split at h
        · cases h
        rename_i n l3 hn
        simp only [Option.some.injEq, Prod.mk.injEq] at h
        obtain ⟨rfl, rfl⟩ := h
        have hb2 : BytesOk l2 := fun y hy => hb y (by rw [e]; simp [hy])
        obtain ⟨q, hq1, hq2, _, _, hq3⟩ := rn_back l2 0 n l3 hb2 hn
        simp only [Nat.pow_zero, Nat.mul_one] at hq1 hq3
        subst hq1
        refine ⟨?_, ho, rok _, unfold_i64 _ hq3, zok _ fun h => absurd h hk⟩
        unfold codeS
        rw [hregs, if_neg (show ¬ shK (putRegs op rs (unfoldS n)).op = 0 from hk), show (putRegs op rs (unfoldS n)).n = unfoldS n from rfl, fold_unfold, e, hq2]
        simp [putRegs]
    · cases h
end Go.Proofs.YtdldochhondifaaGreatDoor
namespace Go.Proofs.YtdldochhondifaaGreatDoor
open Go.RowKit

theorem code_ok_iff (ms : List Mac) : (checkS ms).1 = 0 ↔ ms.length ≤ 5000 ∧ (∀ (j : Nat) (m : Mac), ms[j]? = some m → faultS m (ms.length : Int) = 0) ∧ ∃ m, ms[ms.length - 1]? = some m ∧ (m.op = 37 ∨ m.op = 45) := by
  constructor
  · intro h
    by_cases hl : 5000 < ms.length
    · rw [checkS_many ms hl] at h; cases h
    by_cases hall : ∀ (j : Nat) (m : Mac), ms[j]? = some m → faultS m (ms.length : Int) = 0
    · refine ⟨by omega, hall, ?_⟩
      by_cases h0 : ms.length = 0
      · rw [List.eq_nil_of_length_eq_zero h0] at h; cases h
      · obtain ⟨m, hm⟩ : ∃ m, ms[ms.length - 1]? = some m := ⟨ms[ms.length - 1]'(by omega), List.getElem?_eq_getElem _⟩
        refine ⟨m, hm, ?_⟩
        rw [checkS_end ms m (by omega) hall hm] at h
        split at h
        · assumption
        · cases h
    · exfalso
      obtain ⟨k, m, hk, hf, hb⟩ : ∃ (k : Nat) (m : Mac), ms[k]? = some m ∧ faultS m (ms.length : Int) ≠ 0 ∧ ∀ (j : Nat) (m' : Mac), j < k → ms[j]? = some m' → faultS m' (ms.length : Int) = 0 := by
        cases hi : ms.findIdx? (fun m => faultS m (ms.length : Int) != 0) with
        | none =>
          exfalso
          apply hall
          intro j m hm
          rw [List.findIdx?_eq_none_iff] at hi
          simpa using hi m (List.mem_of_getElem? hm)
        | some k =>
          rw [List.findIdx?_eq_some_iff_getElem] at hi
          obtain ⟨hlt, h1, h2⟩ := hi
          refine ⟨k, ms[k], List.getElem?_eq_getElem hlt, by simpa using h1, fun j m' hj hm' => ?_⟩
          have := h2 j hj
          rw [List.getElem?_eq_getElem (by omega)] at hm'
          cases hm'
          simpa using this
      rw [checkS_bad ms k m (by omega) hk hf hb] at h
      exact hf h
  · rintro ⟨hl, hall, m, hm, ho⟩
    rw [checkS_end ms m hl hall hm, if_pos ho]
theorem check_zero {ms : List Mac} (h : (checkS ms).1 = 0) : checkS ms = (0, 0) := by
  obtain ⟨hl, hall, m, hm, ho⟩ := (code_ok_iff ms).1 h
  rw [checkS_end ms m hl hall hm, if_pos ho]

end Go.Proofs.YtdldochhondifaaGreatDoor
namespace Go.Proofs.YtdldochhondifaaGreatDoor
open Go.RowKit

/-- The shapes that there are. -/
theorem shapes (op : Int) (h : isOp op = true) : ∃ d a b : Bool, ∃ n t w r : Bool, hasS (fldS op) 100 = d ∧ hasS (fldS op) 97 = a ∧ hasS (fldS op) 98 = b ∧ hasS (fldS op) 110 = n ∧ hasS (fldS op) 116 = t ∧ hasS (fldS op) 119 = w ∧ hasS (fldS op) 114 = r ∧
    (d, a, b, n, t, w, r) ∈ [(true, true, true, false, false, false, false), (true, true, false, true, false, false, false), (false, true, true, false, true, false, false), (true, false, false, true, false, false, false), (true, true, false, false, false, false, false),
      (false, true, true, true, false, false, false), (true, false, false, false, false, true, false), (false, true, false, false, false, true, false), (false, false, false, false, true, false, false), (false, true, false, false, true, false, false),
      (false, false, false, false, false, false, true), (false, false, false, false, false, false, false), (true, false, false, false, false, false, false), (false, true, false, false, false, false, false)] := by
  rw [isOp_iff] at h
  refine ⟨_, _, _, _, _, _, _, rfl, rfl, rfl, rfl, rfl, rfl, rfl, ?_⟩
  have key : ∀ k : Fin 48, 1 ≤ k.val → (hasS (fldS (k.val : Int)) 100, hasS (fldS (k.val : Int)) 97, hasS (fldS (k.val : Int)) 98, hasS (fldS (k.val : Int)) 110, hasS (fldS (k.val : Int)) 116, hasS (fldS (k.val : Int)) 119, hasS (fldS (k.val : Int)) 114) ∈
      [(true, true, true, false, false, false, false), (true, true, false, true, false, false, false), (false, true, true, false, true, false, false), (true, false, false, true, false, false, false), (true, true, false, false, false, false, false),
      (false, true, true, true, false, false, false), (true, false, false, false, false, true, false), (false, true, false, false, false, true, false), (false, false, false, false, true, false, false), (false, true, false, false, true, false, false),
      (false, false, false, false, false, false, true), (false, false, false, false, false, false, false), (true, false, false, false, false, false, false), (false, true, false, false, false, false, false)] := by decide +kernel
  have := key ⟨op.toNat, by omega⟩ (by simp; omega)
  simp only [show ((op.toNat : Nat) : Int) = op from by omega] at this
  exact this
end Go.Proofs.YtdldochhondifaaGreatDoor
namespace Go.Proofs.YtdldochhondifaaGreatDoor
open Go.RowKit

/-- The instruction under way: block g holds it; nothing below B has changed. -/
def MacNow (B gr g : Nat) (w : World) (op d a b n : Int) (wx : World) : Prop := Hid (Blk wx gr 39 #[.int .i64 0, .int .i64 0, .int .i64 0, .int .i64 0, .int .i64 0]) ∧ Hid (Blk wx g 39 #[.int .i64 op, .int .i64 d, .int .i64 a, .int .i64 b, .int .i64 n]) ∧ Hid (Below B w wx)
theorem MacNow.put1 {B gr g : Nat} {w wx : World} {op d a b n : Int} (h : MacNow B gr g w op d a b n wx) (hne : gr ≠ g) (hB : B ≤ g) (x : Int) : MacNow B gr g w op x a b n (wx.setCell ⟨g, 1, none⟩ (.int .i64 x)) :=
  ⟨Lib.hid (h.1.out.far (p := ⟨g, 1, none⟩) hne _), Lib.hid (h.2.1.out.set_ 1 _), Lib.hid (h.2.2.out.setCell hB _)⟩
theorem MacNow.put2 {B gr g : Nat} {w wx : World} {op d a b n : Int} (h : MacNow B gr g w op d a b n wx) (hne : gr ≠ g) (hB : B ≤ g) (x : Int) : MacNow B gr g w op d x b n (wx.setCell ⟨g, 2, none⟩ (.int .i64 x)) :=
  ⟨Lib.hid (h.1.out.far (p := ⟨g, 2, none⟩) hne _), Lib.hid (h.2.1.out.set_ 2 _), Lib.hid (h.2.2.out.setCell hB _)⟩
theorem MacNow.put3 {B gr g : Nat} {w wx : World} {op d a b n : Int} (h : MacNow B gr g w op d a b n wx) (hne : gr ≠ g) (hB : B ≤ g) (x : Int) : MacNow B gr g w op d a x n (wx.setCell ⟨g, 3, none⟩ (.int .i64 x)) :=
  ⟨Lib.hid (h.1.out.far (p := ⟨g, 3, none⟩) hne _), Lib.hid (h.2.1.out.set_ 3 _), Lib.hid (h.2.2.out.setCell hB _)⟩
theorem bset {g : Nat} {a w : World} (o : Nat) (h : Below g a w) (u : Value) : Below g a (w.setCell ⟨g, o, none⟩ u) := h.setCell (p := ⟨g, o, none⟩) (Nat.le_refl _) u
end Go.Proofs.YtdldochhondifaaGreatDoor
namespace Go.Proofs.YtdldochhondifaaGreatDoor
open Go.RowKit
attribute [local go_sem ↓] Go.wp_at_zero Go.wp_at_succ

end Go.Proofs.YtdldochhondifaaGreatDoor
