/-
  Texts of the claim AsmWholeSays (ArE): what each proves stands at its theorems.
  Conditions: as the theorems say.
-/
import Derived.Test.YtdldochhondifaaGreatDoorVArS
namespace Go.Proofs.YtdldochhondifaaGreatDoor
open Go.RowKit
attribute [local go_sem] Oper.semAt_some

/-- How far the lines of s have been told. -/
def LinesTo (s : List UInt8) (i : Nat) (cur : List UInt8) (outs : List (List UInt8)) : Prop :=
  cur.length ≤ i ∧ outs.length ≤ i ∧ ((i ≤ s.length ∧ outs ++ (splitC 10 cur (s.drop i)).map cleanS = linesL s) ∨ (i = s.length + 1 ∧ outs = linesL s))
theorem LinesTo.zero (s : List UInt8) : LinesTo s 0 [] [] := ⟨Nat.le_refl _, Nat.le_refl _, .inl ⟨Nat.zero_le _, rfl⟩⟩
theorem LinesTo.line {s : List UInt8} {i : Nat} {cur : List UInt8} {outs : List (List UInt8)} (h : LinesTo s i cur outs) (hi : i < s.length) (hb : s.getD i 0 = 10) : LinesTo s (i + 1) [] (outs ++ [cleanS cur]) := by
  obtain ⟨h1, h2, h3⟩ := h
  refine ⟨by simp, by rw [List.length_append]; simp; omega, .inl ⟨by omega, ?_⟩⟩
  rcases h3 with ⟨_, h3⟩ | ⟨h3, _⟩
  · rw [getD_drop0 s i hi, hb, splitC, if_pos rfl, List.map_cons] at h3
    rw [List.append_assoc]
    exact h3
  · omega
theorem LinesTo.last {s : List UInt8} {cur : List UInt8} {outs : List (List UInt8)} (h : LinesTo s s.length cur outs) : LinesTo s (s.length + 1) [] (outs ++ [cleanS cur]) := by
  obtain ⟨h1, h2, h3⟩ := h
  refine ⟨by simp, by rw [List.length_append]; simp; omega, .inr ⟨rfl, ?_⟩⟩
  rcases h3 with ⟨_, h3⟩ | ⟨h3, _⟩
  · rw [List.drop_length, splitC] at h3
    exact h3
  · omega
theorem LinesTo.byte {s : List UInt8} {i : Nat} {cur : List UInt8} {outs : List (List UInt8)} (h : LinesTo s i cur outs) (hi : i < s.length) (hb : s.getD i 0 ≠ 10) : LinesTo s (i + 1) (cur ++ [s.getD i 0]) outs := by
  obtain ⟨h1, h2, h3⟩ := h
  refine ⟨by rw [List.length_append]; simp; omega, by omega, .inl ⟨by omega, ?_⟩⟩
  rcases h3 with ⟨_, h3⟩ | ⟨h3, _⟩
  · rw [getD_drop0 s i hi, splitC, if_neg hb] at h3
    exact h3
  · omega
theorem LinesTo.done {s : List UInt8} {cur : List UInt8} {outs : List (List UInt8)} (h : LinesTo s (s.length + 1) cur outs) : outs = linesL s := by
  rcases h.2.2 with ⟨h3, _⟩ | ⟨_, h3⟩
  · omega
  · exact h3
theorem own_built (w : World) : OwnS (w.alloc (.cells #[] 9)) w.heap.size (.slice (some ⟨w.heap.size, 0, none⟩) 0 0) [] :=
  ⟨rfl, .inr ⟨w.heap.size, 0, #[], rfl, Nat.le_refl _, heap_alloc_new w _, Nat.le_refl _, by unfold maxLen; omega, rfl, rfl⟩⟩
/-- A fresh row of texts. -/
def TextsPost (B : Nat) (ss : List (List UInt8)) (e : Ending) (w' : World) : Prop := ∃ v, e = .returned v ∧ OwnS w' B v ss
def remB (cur : List UInt8) : Bool := cur.any (· == 59)
theorem cut_len (l : List UInt8) : (cutS l).length ≤ l.length := (List.takeWhile_prefix _).length_le
theorem loS (l : List UInt8) (lo : Nat) : l.length ≤ lo ∨ bl (l.getD lo 0) = false ∨ (lo < l.length ∧ l.getD lo 0 = 32) ∨ (lo < l.length ∧ l.getD lo 0 = 9) := by
  by_cases h : lo < l.length
  · cases hb : bl (l.getD lo 0) with
    | false => exact .inr (.inl rfl)
    | true => exact (((bl_iff _).1 hb).elim (fun e => .inr (.inr (.inl ⟨h, e⟩))) fun e => .inr (.inr (.inr ⟨h, e⟩)))
  · exact .inl (by omega)
theorem not_bl {c : UInt8} (h : bl c = false) : c ≠ 32 ∧ c ≠ 9 := by
  constructor <;> (rintro rfl; cases h)
set_option maxRecDepth 100000 in
set_option maxHeartbeats 4000000 in
theorem cleaned_any (s : List UInt8) (hs : s.length ≤ 1000000) (w : World) :
    Calls Tryz.prog 28 #[.string (mkS s)] w fun e w' => TextsPost w.heap.size (linesL s) e w' ∧ Below w.heap.size w w' := by
  obtain ⟨n, hn⟩ : ∃ n, s.length = n := ⟨_, rfl⟩
  have hz : (mkS s).size = n := by rw [mkS_size, hn]
  have Hn := Lib.hid hn
  have hs' : n ≤ 1000000 := by omega
  clear hs hn
  have HB0 : Hid (Below w.heap.size w (w.alloc (.cells #[] 9))) := Lib.hid ((Below.refl _ _).alloc (Nat.le_refl _) _)
  have HO0 : Hid (OwnS (w.alloc (.cells #[] 9)) w.heap.size (.slice (some ⟨w.heap.size, 0, none⟩) 0 0) []) := Lib.hid (own_built w)
  have H00 := Lib.hid (LinesTo.zero s)
  go_enter Tryz.func28, Tryz.ntmps28
  go_wp2_with fail
  generalize w.alloc (.cells #[] 9) = W0 at *
  generalize hBw : w.heap.size = B at *
  have HBw := Lib.hid hBw
  clear hBw
  go_loopg [3, 4, 5, 6] (n + 1) (fun gk ov lv rv iv wx => ∃ (i : Nat) (cur : List UInt8) (outs : List (List UInt8)), Hid (OwnS wx B ov outs) ∧ lv = .string (mkS (cutS cur)) ∧ rv = .bool (remB cur) ∧ iv = .int .i64 (i : Int) ∧ i + gk = n + 1 ∧ Hid (Below B w wx) ∧ Hid (LinesTo s i cur outs))
  case atStart => exact ⟨0, [], [], HO0, rfl, rfl, rfl, by omega, HB0, H00⟩
  case round =>
    obtain ⟨i, cur, outs, HOi, rfl, rfl, rfl, hi, HBi, HLi⟩ := hrel
    generalize hog : gk = og at *
    clear hog
    clear HB0 HO0 H00
    obtain ⟨l, hl⟩ : ∃ l, cutS cur = l := ⟨_, rfl⟩
    have Hl := Lib.hid hl
    have hcl : cur.length ≤ i := HLi.out.1
    have hol : outs.length ≤ i := HLi.out.2.1
    have hll : l.length ≤ i := by rw [← hl]; exact Nat.le_trans (cut_len cur) hcl
    obtain ⟨ln, hln⟩ : ∃ ln, l.length = ln := ⟨_, rfl⟩
    have hlz : (mkS l).size = ln := by rw [mkS_size, hln]
    have Hln := Lib.hid hln
    rw [hln] at hll
    rw [hl]
    clear hl hln
    by_cases hdone : i = n + 1
    · have HE : Hid (outs = linesL s) := Lib.hid (LinesTo.done (cur := cur) (by rw [Hn.out, ← hdone]; exact HLi.out))
      have hgt : ¬ (i : Int) ≤ (n : Int) := by omega
      clear hdone
      go_wp2_with fail
      go_ret
      exact ⟨⟨_, rfl, by rw [← HE.out, HBw.out]; exact HOi.out⟩, by rw [HBw.out]; exact HBi.out⟩
    have hin : i ≤ n := by omega
    clear hdone
    by_cases hend : i = n ∨ (i < n ∧ s.getD i 0 = 10)
    · have HNx : Hid (LinesTo s (i + 1) [] (outs ++ [trimS l])) := Lib.hid (by
        rw [← Hl.out]
        rcases hend with rfl | ⟨h1, h2⟩
        · rw [← Hn.out]; exact LinesTo.last (by rw [Hn.out]; exact HLi.out)
        · exact LinesTo.line HLi.out (by rw [Hn.out]; exact h1) h2)
      have HT0 : Hid ((l.drop 0).dropWhile bl = l.dropWhile bl) := Lib.hid rfl
      rcases hend with rfl | ⟨hlt, hc⟩
      · have HBz : Hid (B ≤ wr.heap.size) := Lib.hid (by have := HBi.out.size; rw [HBw.out] at this; exact this)
        go_wp2_with fail
        go_loopg [7] ln (fun gk v7 wx => ∃ (lo : Nat) (Wx : World), Wx = wx ∧ v7 = .int .i64 (lo : Int) ∧ lo + gk = ln ∧ wr = wx ∧ Hid ((l.drop lo).dropWhile bl = l.dropWhile bl))
        case atStart => exact ⟨0, _, rfl, rfl, by omega, rfl, HT0⟩
        case round =>
          obtain ⟨lo, Wx, rfl, rfl, hlo, rfl, HL⟩ := hrel
          clear HT0
          rcases loS l lo with h1 | h1 | ⟨h1, h2⟩ | ⟨h1, h2⟩
          · have HD : Hid (l.drop lo = l.dropWhile bl) := Lib.hid (lo_done (.inl h1) HL.out)
            have hge : ¬ (lo : Int) < (ln : Int) := by have := Hln.out; omega
            have hlol : lo ≤ ln := by omega
            clear h1
            have HH0 : Hid ((((l.take ln).drop lo).reverse.dropWhile bl).reverse = trimS l) := Lib.hid (by rw [← Hln.out]; exact hi_start HD.out)
            go_wp2_with fail
            clear hge
            go_loopg [8] ln (fun gk v8 wx => ∃ (hi : Nat) (Wx : World), Wx = wx ∧ v8 = .int .i64 (hi : Int) ∧ hi ≤ gk ∧ hi ≤ ln ∧ lo ≤ hi ∧ wr = wx ∧ Hid ((((l.take hi).drop lo).reverse.dropWhile bl).reverse = trimS l))
            case atStart => exact ⟨ln, _, rfl, rfl, Nat.le_refl _, Nat.le_refl _, by omega, rfl, HH0⟩
            case round =>
              obtain ⟨hi, Wx, rfl, rfl, hgk, hhl, hlh, rfl, HH⟩ := hrel
              clear HH0
              by_cases hle : hi = lo
              · have HH2 : Hid ((l.take hi).drop lo = trimS l) := Lib.hid (hi_done (by rw [Hln.out]; omega) (.inl (by omega)) HH.out)
                have hgt : ¬ (hi : Int) > (lo : Int) := by omega
                have hge2 : (lo : Int) ≤ (hi : Int) := by omega
                clear hle
                have HTr : Hid ((mkS l).extract lo hi = mkS (trimS l)) := Lib.hid (by rw [cut_mk, HH2.out])
                have hex := HTr.out
                go_wp2_with (at_builtin; refine app_one rfl _ _ 36 9 rfl (.string ⟨#[]⟩) 1 16 Tryz.underlying36 infoStr rfl (by decide) (by decide) B _ _ _ (by rfl) HOi.out _ [.string (mkS (trimS l))] (by rfl) rfl (fun x hx => by simp at hx; subst hx; rfl) rfl (by omega) HBz.out ?_; intro p1 W1 HA)
                have HO1 : Hid (OwnS W1 B p1 (outs ++ [trimS l])) := Lib.hid (OwnS.snoc HA.out.own)
                have HB1 := Lib.hid (HBi.out.trans HA.out.below)
                clear hex HA
                go_roundg (og - 1)
                case measure => omega
                case rel => exact ⟨i + 1, [], outs ++ [trimS l], HO1, rfl, rfl, by go_num, by omega, HB1, HNx⟩
              · obtain ⟨k, rfl⟩ : ∃ k, hi = k + 1 := ⟨hi - 1, by omega⟩
                have hgt : ((k + 1 : Nat) : Int) > (lo : Int) := by omega
                have hk1 : (((k + 1 : Nat) : Int) - 1) = (k : Int) := by omega
                have hk0 : (0 : Int) ≤ (k : Int) := by omega
                have hkl : k < (mkS l).size := by omega
                have hkl2 : k < l.length := by rw [Hln.out]; omega
                have hcut : lo ≤ k := by omega
                have HH3 : bl (l.getD k 0) = true → (((l.take k).drop lo).reverse.dropWhile bl).reverse = trimS l := fun hb => hi_step hcut hkl2 hb HH.out
                have HH4 := Lib.hid HH3
                clear HH3 hkl2
                cases hb : bl (l.getD k 0) with
                | false =>
                  have HH2 : Hid ((l.take (k + 1)).drop lo = trimS l) := Lib.hid (hi_done (by rw [Hln.out]; omega) (.inr ⟨by omega, by rw [Nat.add_sub_cancel]; exact hb⟩) HH.out)
                  have hb1 : (((mkS l)[k].toNat : Int) == 32) = false := by rw [at_mk l k hkl]; exact byte_ne (k := 32) (not_bl hb).1
                  have hb2 : (((mkS l)[k].toNat : Int) == 9) = false := by rw [at_mk l k hkl]; exact byte_ne (k := 9) (not_bl hb).2
                  clear hb
                  have HTr : Hid ((mkS l).extract lo (k + 1) = mkS (trimS l)) := Lib.hid (by rw [cut_mk, HH2.out])
                  have hex := HTr.out
                  go_wp2_with (at_builtin; refine app_one rfl _ _ 36 9 rfl (.string ⟨#[]⟩) 1 16 Tryz.underlying36 infoStr rfl (by decide) (by decide) B _ _ _ (by rfl) HOi.out _ [.string (mkS (trimS l))] (by rfl) rfl (fun x hx => by simp at hx; subst hx; rfl) rfl (by omega) HBz.out ?_; intro p1 W1 HA)
                  have HO1 : Hid (OwnS W1 B p1 (outs ++ [trimS l])) := Lib.hid (OwnS.snoc HA.out.own)
                  have HB1 := Lib.hid (HBi.out.trans HA.out.below)
                  clear hex HA
                  go_roundg (og - 1)
                  case measure => omega
                  case rel => exact ⟨i + 1, [], outs ++ [trimS l], HO1, rfl, rfl, by go_num, by omega, HB1, HNx⟩
                | true =>
                  have HH5 := Lib.hid (HH4.out hb)
                  rcases (bl_iff _).1 hb with h2 | h2
                  · have hb1 : ((mkS l)[k].toNat : Int) = 32 := by rw [at_mk l k hkl, h2]; rfl
                    clear hb h2
                    go_wp2_with fail
                    go_roundg (gk - 1)
                    case measure => omega
                    case rel => exact ⟨k, _, rfl, by go_num, by omega, by omega, hcut, rfl, HH5⟩
                  · have hb1 : ((mkS l)[k].toNat : Int) = 9 := by rw [at_mk l k hkl, h2]; rfl
                    clear hb h2
                    go_wp2_with fail
                    go_roundg (gk - 1)
                    case measure => omega
                    case rel => exact ⟨k, _, rfl, by go_num, by omega, by omega, hcut, rfl, HH5⟩
          · by_cases h0 : ln ≤ lo
            · have HD : Hid (l.drop lo = l.dropWhile bl) := Lib.hid (lo_done (.inl (by rw [Hln.out]; exact h0)) HL.out)
              have hge : ¬ (lo : Int) < (ln : Int) := by omega
              have hlol : lo ≤ ln := by omega
              clear h1 h0
              have HH0 : Hid ((((l.take ln).drop lo).reverse.dropWhile bl).reverse = trimS l) := Lib.hid (by rw [← Hln.out]; exact hi_start HD.out)
              go_wp2_with fail
              clear hge
              go_loopg [8] ln (fun gk v8 wx => ∃ (hi : Nat) (Wx : World), Wx = wx ∧ v8 = .int .i64 (hi : Int) ∧ hi ≤ gk ∧ hi ≤ ln ∧ lo ≤ hi ∧ wr = wx ∧ Hid ((((l.take hi).drop lo).reverse.dropWhile bl).reverse = trimS l))
              case atStart => exact ⟨ln, _, rfl, rfl, Nat.le_refl _, Nat.le_refl _, by omega, rfl, HH0⟩
              case round =>
                obtain ⟨hi, Wx, rfl, rfl, hgk, hhl, hlh, rfl, HH⟩ := hrel
                clear HH0
                by_cases hle : hi = lo
                · have HH2 : Hid ((l.take hi).drop lo = trimS l) := Lib.hid (hi_done (by rw [Hln.out]; omega) (.inl (by omega)) HH.out)
                  have hgt : ¬ (hi : Int) > (lo : Int) := by omega
                  have hge2 : (lo : Int) ≤ (hi : Int) := by omega
                  clear hle
                  have HTr : Hid ((mkS l).extract lo hi = mkS (trimS l)) := Lib.hid (by rw [cut_mk, HH2.out])
                  have hex := HTr.out
                  go_wp2_with (at_builtin; refine app_one rfl _ _ 36 9 rfl (.string ⟨#[]⟩) 1 16 Tryz.underlying36 infoStr rfl (by decide) (by decide) B _ _ _ (by rfl) HOi.out _ [.string (mkS (trimS l))] (by rfl) rfl (fun x hx => by simp at hx; subst hx; rfl) rfl (by omega) HBz.out ?_; intro p1 W1 HA)
                  have HO1 : Hid (OwnS W1 B p1 (outs ++ [trimS l])) := Lib.hid (OwnS.snoc HA.out.own)
                  have HB1 := Lib.hid (HBi.out.trans HA.out.below)
                  clear hex HA
                  go_roundg (og - 1)
                  case measure => omega
                  case rel => exact ⟨i + 1, [], outs ++ [trimS l], HO1, rfl, rfl, by go_num, by omega, HB1, HNx⟩
                · obtain ⟨k, rfl⟩ : ∃ k, hi = k + 1 := ⟨hi - 1, by omega⟩
                  have hgt : ((k + 1 : Nat) : Int) > (lo : Int) := by omega
                  have hk1 : (((k + 1 : Nat) : Int) - 1) = (k : Int) := by omega
                  have hk0 : (0 : Int) ≤ (k : Int) := by omega
                  have hkl : k < (mkS l).size := by omega
                  have hkl2 : k < l.length := by rw [Hln.out]; omega
                  have hcut : lo ≤ k := by omega
                  have HH3 : bl (l.getD k 0) = true → (((l.take k).drop lo).reverse.dropWhile bl).reverse = trimS l := fun hb => hi_step hcut hkl2 hb HH.out
                  have HH4 := Lib.hid HH3
                  clear HH3 hkl2
                  cases hb : bl (l.getD k 0) with
                  | false =>
                    have HH2 : Hid ((l.take (k + 1)).drop lo = trimS l) := Lib.hid (hi_done (by rw [Hln.out]; omega) (.inr ⟨by omega, by rw [Nat.add_sub_cancel]; exact hb⟩) HH.out)
                    have hb1 : (((mkS l)[k].toNat : Int) == 32) = false := by rw [at_mk l k hkl]; exact byte_ne (k := 32) (not_bl hb).1
                    have hb2 : (((mkS l)[k].toNat : Int) == 9) = false := by rw [at_mk l k hkl]; exact byte_ne (k := 9) (not_bl hb).2
                    clear hb
                    have HTr : Hid ((mkS l).extract lo (k + 1) = mkS (trimS l)) := Lib.hid (by rw [cut_mk, HH2.out])
                    have hex := HTr.out
                    go_wp2_with (at_builtin; refine app_one rfl _ _ 36 9 rfl (.string ⟨#[]⟩) 1 16 Tryz.underlying36 infoStr rfl (by decide) (by decide) B _ _ _ (by rfl) HOi.out _ [.string (mkS (trimS l))] (by rfl) rfl (fun x hx => by simp at hx; subst hx; rfl) rfl (by omega) HBz.out ?_; intro p1 W1 HA)
                    have HO1 : Hid (OwnS W1 B p1 (outs ++ [trimS l])) := Lib.hid (OwnS.snoc HA.out.own)
                    have HB1 := Lib.hid (HBi.out.trans HA.out.below)
                    clear hex HA
                    go_roundg (og - 1)
                    case measure => omega
                    case rel => exact ⟨i + 1, [], outs ++ [trimS l], HO1, rfl, rfl, by go_num, by omega, HB1, HNx⟩
                  | true =>
                    have HH5 := Lib.hid (HH4.out hb)
                    rcases (bl_iff _).1 hb with h2 | h2
                    · have hb1 : ((mkS l)[k].toNat : Int) = 32 := by rw [at_mk l k hkl, h2]; rfl
                      clear hb h2
                      go_wp2_with fail
                      go_roundg (gk - 1)
                      case measure => omega
                      case rel => exact ⟨k, _, rfl, by go_num, by omega, by omega, hcut, rfl, HH5⟩
                    · have hb1 : ((mkS l)[k].toNat : Int) = 9 := by rw [at_mk l k hkl, h2]; rfl
                      clear hb h2
                      go_wp2_with fail
                      go_roundg (gk - 1)
                      case measure => omega
                      case rel => exact ⟨k, _, rfl, by go_num, by omega, by omega, hcut, rfl, HH5⟩
            · have HD : Hid (l.drop lo = l.dropWhile bl) := Lib.hid (lo_done (.inr h1) HL.out)
              have hlt2 : (lo : Int) < (ln : Int) := by omega
              have hlt3 : lo < (mkS l).size := by omega
              have hlol : lo ≤ ln := by omega
              have hb1 : (((mkS l)[lo].toNat : Int) == 32) = false := by rw [at_mk l lo hlt3]; exact byte_ne (k := 32) (not_bl h1).1
              have hb2 : (((mkS l)[lo].toNat : Int) == 9) = false := by rw [at_mk l lo hlt3]; exact byte_ne (k := 9) (not_bl h1).2
              clear h1 h0
              have HH0 : Hid ((((l.take ln).drop lo).reverse.dropWhile bl).reverse = trimS l) := Lib.hid (by rw [← Hln.out]; exact hi_start HD.out)
              go_wp2_with fail
              clear hb1 hb2
              go_loopg [8] ln (fun gk v8 wx => ∃ (hi : Nat) (Wx : World), Wx = wx ∧ v8 = .int .i64 (hi : Int) ∧ hi ≤ gk ∧ hi ≤ ln ∧ lo ≤ hi ∧ wr = wx ∧ Hid ((((l.take hi).drop lo).reverse.dropWhile bl).reverse = trimS l))
              case atStart => exact ⟨ln, _, rfl, rfl, Nat.le_refl _, Nat.le_refl _, by omega, rfl, HH0⟩
              case round =>
                obtain ⟨hi, Wx, rfl, rfl, hgk, hhl, hlh, rfl, HH⟩ := hrel
                clear HH0
                by_cases hle : hi = lo
                · have HH2 : Hid ((l.take hi).drop lo = trimS l) := Lib.hid (hi_done (by rw [Hln.out]; omega) (.inl (by omega)) HH.out)
                  have hgt : ¬ (hi : Int) > (lo : Int) := by omega
                  have hge2 : (lo : Int) ≤ (hi : Int) := by omega
                  clear hle
                  have HTr : Hid ((mkS l).extract lo hi = mkS (trimS l)) := Lib.hid (by rw [cut_mk, HH2.out])
                  have hex := HTr.out
                  go_wp2_with (at_builtin; refine app_one rfl _ _ 36 9 rfl (.string ⟨#[]⟩) 1 16 Tryz.underlying36 infoStr rfl (by decide) (by decide) B _ _ _ (by rfl) HOi.out _ [.string (mkS (trimS l))] (by rfl) rfl (fun x hx => by simp at hx; subst hx; rfl) rfl (by omega) HBz.out ?_; intro p1 W1 HA)
                  have HO1 : Hid (OwnS W1 B p1 (outs ++ [trimS l])) := Lib.hid (OwnS.snoc HA.out.own)
                  have HB1 := Lib.hid (HBi.out.trans HA.out.below)
                  clear hex HA
                  go_roundg (og - 1)
                  case measure => omega
                  case rel => exact ⟨i + 1, [], outs ++ [trimS l], HO1, rfl, rfl, by go_num, by omega, HB1, HNx⟩
                · obtain ⟨k, rfl⟩ : ∃ k, hi = k + 1 := ⟨hi - 1, by omega⟩
                  have hgt : ((k + 1 : Nat) : Int) > (lo : Int) := by omega
                  have hk1 : (((k + 1 : Nat) : Int) - 1) = (k : Int) := by omega
                  have hk0 : (0 : Int) ≤ (k : Int) := by omega
                  have hkl : k < (mkS l).size := by omega
                  have hkl2 : k < l.length := by rw [Hln.out]; omega
                  have hcut : lo ≤ k := by omega
                  have HH3 : bl (l.getD k 0) = true → (((l.take k).drop lo).reverse.dropWhile bl).reverse = trimS l := fun hb => hi_step hcut hkl2 hb HH.out
                  have HH4 := Lib.hid HH3
                  clear HH3 hkl2
                  cases hb : bl (l.getD k 0) with
                  | false =>
                    have HH2 : Hid ((l.take (k + 1)).drop lo = trimS l) := Lib.hid (hi_done (by rw [Hln.out]; omega) (.inr ⟨by omega, by rw [Nat.add_sub_cancel]; exact hb⟩) HH.out)
                    have hb1 : (((mkS l)[k].toNat : Int) == 32) = false := by rw [at_mk l k hkl]; exact byte_ne (k := 32) (not_bl hb).1
                    have hb2 : (((mkS l)[k].toNat : Int) == 9) = false := by rw [at_mk l k hkl]; exact byte_ne (k := 9) (not_bl hb).2
                    clear hb
                    have HTr : Hid ((mkS l).extract lo (k + 1) = mkS (trimS l)) := Lib.hid (by rw [cut_mk, HH2.out])
                    have hex := HTr.out
                    go_wp2_with (at_builtin; refine app_one rfl _ _ 36 9 rfl (.string ⟨#[]⟩) 1 16 Tryz.underlying36 infoStr rfl (by decide) (by decide) B _ _ _ (by rfl) HOi.out _ [.string (mkS (trimS l))] (by rfl) rfl (fun x hx => by simp at hx; subst hx; rfl) rfl (by omega) HBz.out ?_; intro p1 W1 HA)
                    have HO1 : Hid (OwnS W1 B p1 (outs ++ [trimS l])) := Lib.hid (OwnS.snoc HA.out.own)
                    have HB1 := Lib.hid (HBi.out.trans HA.out.below)
                    clear hex HA
                    go_roundg (og - 1)
                    case measure => omega
                    case rel => exact ⟨i + 1, [], outs ++ [trimS l], HO1, rfl, rfl, by go_num, by omega, HB1, HNx⟩
                  | true =>
                    have HH5 := Lib.hid (HH4.out hb)
                    rcases (bl_iff _).1 hb with h2 | h2
                    · have hb1 : ((mkS l)[k].toNat : Int) = 32 := by rw [at_mk l k hkl, h2]; rfl
                      clear hb h2
                      go_wp2_with fail
                      go_roundg (gk - 1)
                      case measure => omega
                      case rel => exact ⟨k, _, rfl, by go_num, by omega, by omega, hcut, rfl, HH5⟩
                    · have hb1 : ((mkS l)[k].toNat : Int) = 9 := by rw [at_mk l k hkl, h2]; rfl
                      clear hb h2
                      go_wp2_with fail
                      go_roundg (gk - 1)
                      case measure => omega
                      case rel => exact ⟨k, _, rfl, by go_num, by omega, by omega, hcut, rfl, HH5⟩
          · have HL2 : Hid ((l.drop (lo + 1)).dropWhile bl = l.dropWhile bl) := Lib.hid (lo_step h1 ((bl_iff _).2 (.inl h2)) HL.out)
            rw [Hln.out] at h1
            have hlt2 : (lo : Int) < (ln : Int) := by omega
            have hlt3 : lo < (mkS l).size := by omega
            have hb1 : ((mkS l)[lo].toNat : Int) = 32 := by rw [at_mk l lo hlt3, h2]; rfl
            clear h2
            go_wp2_with fail
            go_roundg (gk - 1)
            case measure => omega
            case rel => exact ⟨lo + 1, _, rfl, by go_num, by omega, rfl, HL2⟩
          · have HL2 : Hid ((l.drop (lo + 1)).dropWhile bl = l.dropWhile bl) := Lib.hid (lo_step h1 ((bl_iff _).2 (.inr h2)) HL.out)
            rw [Hln.out] at h1
            have hlt2 : (lo : Int) < (ln : Int) := by omega
            have hlt3 : lo < (mkS l).size := by omega
            have hb1 : ((mkS l)[lo].toNat : Int) = 9 := by rw [at_mk l lo hlt3, h2]; rfl
            clear h2
            go_wp2_with fail
            go_roundg (gk - 1)
            case measure => omega
            case rel => exact ⟨lo + 1, _, rfl, by go_num, by omega, rfl, HL2⟩
      · have hlt' : i < (mkS s).size := by omega
        have hx : ((mkS s)[i].toNat : Int) = 10 := by rw [at_mk s i hlt', hc]; rfl
        clear hc
        have HBz : Hid (B ≤ wr.heap.size) := Lib.hid (by have := HBi.out.size; rw [HBw.out] at this; exact this)
        go_wp2_with fail
        clear hx hlt'
        go_loopg [7] ln (fun gk v7 wx => ∃ (lo : Nat) (Wx : World), Wx = wx ∧ v7 = .int .i64 (lo : Int) ∧ lo + gk = ln ∧ wr = wx ∧ Hid ((l.drop lo).dropWhile bl = l.dropWhile bl))
        case atStart => exact ⟨0, _, rfl, rfl, by omega, rfl, HT0⟩
        case round =>
          obtain ⟨lo, Wx, rfl, rfl, hlo, rfl, HL⟩ := hrel
          clear HT0
          rcases loS l lo with h1 | h1 | ⟨h1, h2⟩ | ⟨h1, h2⟩
          · have HD : Hid (l.drop lo = l.dropWhile bl) := Lib.hid (lo_done (.inl h1) HL.out)
            have hge : ¬ (lo : Int) < (ln : Int) := by have := Hln.out; omega
            have hlol : lo ≤ ln := by omega
            clear h1
            have HH0 : Hid ((((l.take ln).drop lo).reverse.dropWhile bl).reverse = trimS l) := Lib.hid (by rw [← Hln.out]; exact hi_start HD.out)
            go_wp2_with fail
            clear hge
            go_loopg [8] ln (fun gk v8 wx => ∃ (hi : Nat) (Wx : World), Wx = wx ∧ v8 = .int .i64 (hi : Int) ∧ hi ≤ gk ∧ hi ≤ ln ∧ lo ≤ hi ∧ wr = wx ∧ Hid ((((l.take hi).drop lo).reverse.dropWhile bl).reverse = trimS l))
            case atStart => exact ⟨ln, _, rfl, rfl, Nat.le_refl _, Nat.le_refl _, by omega, rfl, HH0⟩
            case round =>
              obtain ⟨hi, Wx, rfl, rfl, hgk, hhl, hlh, rfl, HH⟩ := hrel
              clear HH0
              by_cases hle : hi = lo
              · have HH2 : Hid ((l.take hi).drop lo = trimS l) := Lib.hid (hi_done (by rw [Hln.out]; omega) (.inl (by omega)) HH.out)
                have hgt : ¬ (hi : Int) > (lo : Int) := by omega
                have hge2 : (lo : Int) ≤ (hi : Int) := by omega
                clear hle
                have HTr : Hid ((mkS l).extract lo hi = mkS (trimS l)) := Lib.hid (by rw [cut_mk, HH2.out])
                have hex := HTr.out
                go_wp2_with (at_builtin; refine app_one rfl _ _ 36 9 rfl (.string ⟨#[]⟩) 1 16 Tryz.underlying36 infoStr rfl (by decide) (by decide) B _ _ _ (by rfl) HOi.out _ [.string (mkS (trimS l))] (by rfl) rfl (fun x hx => by simp at hx; subst hx; rfl) rfl (by omega) HBz.out ?_; intro p1 W1 HA)
                have HO1 : Hid (OwnS W1 B p1 (outs ++ [trimS l])) := Lib.hid (OwnS.snoc HA.out.own)
                have HB1 := Lib.hid (HBi.out.trans HA.out.below)
                clear hex HA
                go_roundg (og - 1)
                case measure => omega
                case rel => exact ⟨i + 1, [], outs ++ [trimS l], HO1, rfl, rfl, by go_num, by omega, HB1, HNx⟩
              · obtain ⟨k, rfl⟩ : ∃ k, hi = k + 1 := ⟨hi - 1, by omega⟩
                have hgt : ((k + 1 : Nat) : Int) > (lo : Int) := by omega
                have hk1 : (((k + 1 : Nat) : Int) - 1) = (k : Int) := by omega
                have hk0 : (0 : Int) ≤ (k : Int) := by omega
                have hkl : k < (mkS l).size := by omega
                have hkl2 : k < l.length := by rw [Hln.out]; omega
                have hcut : lo ≤ k := by omega
                have HH3 : bl (l.getD k 0) = true → (((l.take k).drop lo).reverse.dropWhile bl).reverse = trimS l := fun hb => hi_step hcut hkl2 hb HH.out
                have HH4 := Lib.hid HH3
                clear HH3 hkl2
                cases hb : bl (l.getD k 0) with
                | false =>
                  have HH2 : Hid ((l.take (k + 1)).drop lo = trimS l) := Lib.hid (hi_done (by rw [Hln.out]; omega) (.inr ⟨by omega, by rw [Nat.add_sub_cancel]; exact hb⟩) HH.out)
                  have hb1 : (((mkS l)[k].toNat : Int) == 32) = false := by rw [at_mk l k hkl]; exact byte_ne (k := 32) (not_bl hb).1
                  have hb2 : (((mkS l)[k].toNat : Int) == 9) = false := by rw [at_mk l k hkl]; exact byte_ne (k := 9) (not_bl hb).2
                  clear hb
                  have HTr : Hid ((mkS l).extract lo (k + 1) = mkS (trimS l)) := Lib.hid (by rw [cut_mk, HH2.out])
                  have hex := HTr.out
                  go_wp2_with (at_builtin; refine app_one rfl _ _ 36 9 rfl (.string ⟨#[]⟩) 1 16 Tryz.underlying36 infoStr rfl (by decide) (by decide) B _ _ _ (by rfl) HOi.out _ [.string (mkS (trimS l))] (by rfl) rfl (fun x hx => by simp at hx; subst hx; rfl) rfl (by omega) HBz.out ?_; intro p1 W1 HA)
                  have HO1 : Hid (OwnS W1 B p1 (outs ++ [trimS l])) := Lib.hid (OwnS.snoc HA.out.own)
                  have HB1 := Lib.hid (HBi.out.trans HA.out.below)
                  clear hex HA
                  go_roundg (og - 1)
                  case measure => omega
                  case rel => exact ⟨i + 1, [], outs ++ [trimS l], HO1, rfl, rfl, by go_num, by omega, HB1, HNx⟩
                | true =>
                  have HH5 := Lib.hid (HH4.out hb)
                  rcases (bl_iff _).1 hb with h2 | h2
                  · have hb1 : ((mkS l)[k].toNat : Int) = 32 := by rw [at_mk l k hkl, h2]; rfl
                    clear hb h2
                    go_wp2_with fail
                    go_roundg (gk - 1)
                    case measure => omega
                    case rel => exact ⟨k, _, rfl, by go_num, by omega, by omega, hcut, rfl, HH5⟩
                  · have hb1 : ((mkS l)[k].toNat : Int) = 9 := by rw [at_mk l k hkl, h2]; rfl
                    clear hb h2
                    go_wp2_with fail
                    go_roundg (gk - 1)
                    case measure => omega
                    case rel => exact ⟨k, _, rfl, by go_num, by omega, by omega, hcut, rfl, HH5⟩
          · by_cases h0 : ln ≤ lo
            · have HD : Hid (l.drop lo = l.dropWhile bl) := Lib.hid (lo_done (.inl (by rw [Hln.out]; exact h0)) HL.out)
              have hge : ¬ (lo : Int) < (ln : Int) := by omega
              have hlol : lo ≤ ln := by omega
              clear h1 h0
              have HH0 : Hid ((((l.take ln).drop lo).reverse.dropWhile bl).reverse = trimS l) := Lib.hid (by rw [← Hln.out]; exact hi_start HD.out)
              go_wp2_with fail
              clear hge
              go_loopg [8] ln (fun gk v8 wx => ∃ (hi : Nat) (Wx : World), Wx = wx ∧ v8 = .int .i64 (hi : Int) ∧ hi ≤ gk ∧ hi ≤ ln ∧ lo ≤ hi ∧ wr = wx ∧ Hid ((((l.take hi).drop lo).reverse.dropWhile bl).reverse = trimS l))
              case atStart => exact ⟨ln, _, rfl, rfl, Nat.le_refl _, Nat.le_refl _, by omega, rfl, HH0⟩
              case round =>
                obtain ⟨hi, Wx, rfl, rfl, hgk, hhl, hlh, rfl, HH⟩ := hrel
                clear HH0
                by_cases hle : hi = lo
                · have HH2 : Hid ((l.take hi).drop lo = trimS l) := Lib.hid (hi_done (by rw [Hln.out]; omega) (.inl (by omega)) HH.out)
                  have hgt : ¬ (hi : Int) > (lo : Int) := by omega
                  have hge2 : (lo : Int) ≤ (hi : Int) := by omega
                  clear hle
                  have HTr : Hid ((mkS l).extract lo hi = mkS (trimS l)) := Lib.hid (by rw [cut_mk, HH2.out])
                  have hex := HTr.out
                  go_wp2_with (at_builtin; refine app_one rfl _ _ 36 9 rfl (.string ⟨#[]⟩) 1 16 Tryz.underlying36 infoStr rfl (by decide) (by decide) B _ _ _ (by rfl) HOi.out _ [.string (mkS (trimS l))] (by rfl) rfl (fun x hx => by simp at hx; subst hx; rfl) rfl (by omega) HBz.out ?_; intro p1 W1 HA)
                  have HO1 : Hid (OwnS W1 B p1 (outs ++ [trimS l])) := Lib.hid (OwnS.snoc HA.out.own)
                  have HB1 := Lib.hid (HBi.out.trans HA.out.below)
                  clear hex HA
                  go_roundg (og - 1)
                  case measure => omega
                  case rel => exact ⟨i + 1, [], outs ++ [trimS l], HO1, rfl, rfl, by go_num, by omega, HB1, HNx⟩
                · obtain ⟨k, rfl⟩ : ∃ k, hi = k + 1 := ⟨hi - 1, by omega⟩
                  have hgt : ((k + 1 : Nat) : Int) > (lo : Int) := by omega
                  have hk1 : (((k + 1 : Nat) : Int) - 1) = (k : Int) := by omega
                  have hk0 : (0 : Int) ≤ (k : Int) := by omega
                  have hkl : k < (mkS l).size := by omega
                  have hkl2 : k < l.length := by rw [Hln.out]; omega
                  have hcut : lo ≤ k := by omega
                  have HH3 : bl (l.getD k 0) = true → (((l.take k).drop lo).reverse.dropWhile bl).reverse = trimS l := fun hb => hi_step hcut hkl2 hb HH.out
                  have HH4 := Lib.hid HH3
                  clear HH3 hkl2
                  cases hb : bl (l.getD k 0) with
                  | false =>
                    have HH2 : Hid ((l.take (k + 1)).drop lo = trimS l) := Lib.hid (hi_done (by rw [Hln.out]; omega) (.inr ⟨by omega, by rw [Nat.add_sub_cancel]; exact hb⟩) HH.out)
                    have hb1 : (((mkS l)[k].toNat : Int) == 32) = false := by rw [at_mk l k hkl]; exact byte_ne (k := 32) (not_bl hb).1
                    have hb2 : (((mkS l)[k].toNat : Int) == 9) = false := by rw [at_mk l k hkl]; exact byte_ne (k := 9) (not_bl hb).2
                    clear hb
                    have HTr : Hid ((mkS l).extract lo (k + 1) = mkS (trimS l)) := Lib.hid (by rw [cut_mk, HH2.out])
                    have hex := HTr.out
                    go_wp2_with (at_builtin; refine app_one rfl _ _ 36 9 rfl (.string ⟨#[]⟩) 1 16 Tryz.underlying36 infoStr rfl (by decide) (by decide) B _ _ _ (by rfl) HOi.out _ [.string (mkS (trimS l))] (by rfl) rfl (fun x hx => by simp at hx; subst hx; rfl) rfl (by omega) HBz.out ?_; intro p1 W1 HA)
                    have HO1 : Hid (OwnS W1 B p1 (outs ++ [trimS l])) := Lib.hid (OwnS.snoc HA.out.own)
                    have HB1 := Lib.hid (HBi.out.trans HA.out.below)
                    clear hex HA
                    go_roundg (og - 1)
                    case measure => omega
                    case rel => exact ⟨i + 1, [], outs ++ [trimS l], HO1, rfl, rfl, by go_num, by omega, HB1, HNx⟩
                  | true =>
                    have HH5 := Lib.hid (HH4.out hb)
                    rcases (bl_iff _).1 hb with h2 | h2
                    · have hb1 : ((mkS l)[k].toNat : Int) = 32 := by rw [at_mk l k hkl, h2]; rfl
                      clear hb h2
                      go_wp2_with fail
                      go_roundg (gk - 1)
                      case measure => omega
                      case rel => exact ⟨k, _, rfl, by go_num, by omega, by omega, hcut, rfl, HH5⟩
                    · have hb1 : ((mkS l)[k].toNat : Int) = 9 := by rw [at_mk l k hkl, h2]; rfl
                      clear hb h2
                      go_wp2_with fail
                      go_roundg (gk - 1)
                      case measure => omega
                      case rel => exact ⟨k, _, rfl, by go_num, by omega, by omega, hcut, rfl, HH5⟩
            · have HD : Hid (l.drop lo = l.dropWhile bl) := Lib.hid (lo_done (.inr h1) HL.out)
              have hlt2 : (lo : Int) < (ln : Int) := by omega
              have hlt3 : lo < (mkS l).size := by omega
              have hlol : lo ≤ ln := by omega
              have hb1 : (((mkS l)[lo].toNat : Int) == 32) = false := by rw [at_mk l lo hlt3]; exact byte_ne (k := 32) (not_bl h1).1
              have hb2 : (((mkS l)[lo].toNat : Int) == 9) = false := by rw [at_mk l lo hlt3]; exact byte_ne (k := 9) (not_bl h1).2
              clear h1 h0
              have HH0 : Hid ((((l.take ln).drop lo).reverse.dropWhile bl).reverse = trimS l) := Lib.hid (by rw [← Hln.out]; exact hi_start HD.out)
              go_wp2_with fail
              clear hb1 hb2
              go_loopg [8] ln (fun gk v8 wx => ∃ (hi : Nat) (Wx : World), Wx = wx ∧ v8 = .int .i64 (hi : Int) ∧ hi ≤ gk ∧ hi ≤ ln ∧ lo ≤ hi ∧ wr = wx ∧ Hid ((((l.take hi).drop lo).reverse.dropWhile bl).reverse = trimS l))
              case atStart => exact ⟨ln, _, rfl, rfl, Nat.le_refl _, Nat.le_refl _, by omega, rfl, HH0⟩
              case round =>
                obtain ⟨hi, Wx, rfl, rfl, hgk, hhl, hlh, rfl, HH⟩ := hrel
                clear HH0
                by_cases hle : hi = lo
                · have HH2 : Hid ((l.take hi).drop lo = trimS l) := Lib.hid (hi_done (by rw [Hln.out]; omega) (.inl (by omega)) HH.out)
                  have hgt : ¬ (hi : Int) > (lo : Int) := by omega
                  have hge2 : (lo : Int) ≤ (hi : Int) := by omega
                  clear hle
                  have HTr : Hid ((mkS l).extract lo hi = mkS (trimS l)) := Lib.hid (by rw [cut_mk, HH2.out])
                  have hex := HTr.out
                  go_wp2_with (at_builtin; refine app_one rfl _ _ 36 9 rfl (.string ⟨#[]⟩) 1 16 Tryz.underlying36 infoStr rfl (by decide) (by decide) B _ _ _ (by rfl) HOi.out _ [.string (mkS (trimS l))] (by rfl) rfl (fun x hx => by simp at hx; subst hx; rfl) rfl (by omega) HBz.out ?_; intro p1 W1 HA)
                  have HO1 : Hid (OwnS W1 B p1 (outs ++ [trimS l])) := Lib.hid (OwnS.snoc HA.out.own)
                  have HB1 := Lib.hid (HBi.out.trans HA.out.below)
                  clear hex HA
                  go_roundg (og - 1)
                  case measure => omega
                  case rel => exact ⟨i + 1, [], outs ++ [trimS l], HO1, rfl, rfl, by go_num, by omega, HB1, HNx⟩
                · obtain ⟨k, rfl⟩ : ∃ k, hi = k + 1 := ⟨hi - 1, by omega⟩
                  have hgt : ((k + 1 : Nat) : Int) > (lo : Int) := by omega
                  have hk1 : (((k + 1 : Nat) : Int) - 1) = (k : Int) := by omega
                  have hk0 : (0 : Int) ≤ (k : Int) := by omega
                  have hkl : k < (mkS l).size := by omega
                  have hkl2 : k < l.length := by rw [Hln.out]; omega
                  have hcut : lo ≤ k := by omega
                  have HH3 : bl (l.getD k 0) = true → (((l.take k).drop lo).reverse.dropWhile bl).reverse = trimS l := fun hb => hi_step hcut hkl2 hb HH.out
                  have HH4 := Lib.hid HH3
                  clear HH3 hkl2
                  cases hb : bl (l.getD k 0) with
                  | false =>
                    have HH2 : Hid ((l.take (k + 1)).drop lo = trimS l) := Lib.hid (hi_done (by rw [Hln.out]; omega) (.inr ⟨by omega, by rw [Nat.add_sub_cancel]; exact hb⟩) HH.out)
                    have hb1 : (((mkS l)[k].toNat : Int) == 32) = false := by rw [at_mk l k hkl]; exact byte_ne (k := 32) (not_bl hb).1
                    have hb2 : (((mkS l)[k].toNat : Int) == 9) = false := by rw [at_mk l k hkl]; exact byte_ne (k := 9) (not_bl hb).2
                    clear hb
                    have HTr : Hid ((mkS l).extract lo (k + 1) = mkS (trimS l)) := Lib.hid (by rw [cut_mk, HH2.out])
                    have hex := HTr.out
                    go_wp2_with (at_builtin; refine app_one rfl _ _ 36 9 rfl (.string ⟨#[]⟩) 1 16 Tryz.underlying36 infoStr rfl (by decide) (by decide) B _ _ _ (by rfl) HOi.out _ [.string (mkS (trimS l))] (by rfl) rfl (fun x hx => by simp at hx; subst hx; rfl) rfl (by omega) HBz.out ?_; intro p1 W1 HA)
                    have HO1 : Hid (OwnS W1 B p1 (outs ++ [trimS l])) := Lib.hid (OwnS.snoc HA.out.own)
                    have HB1 := Lib.hid (HBi.out.trans HA.out.below)
                    clear hex HA
                    go_roundg (og - 1)
                    case measure => omega
                    case rel => exact ⟨i + 1, [], outs ++ [trimS l], HO1, rfl, rfl, by go_num, by omega, HB1, HNx⟩
                  | true =>
                    have HH5 := Lib.hid (HH4.out hb)
                    rcases (bl_iff _).1 hb with h2 | h2
                    · have hb1 : ((mkS l)[k].toNat : Int) = 32 := by rw [at_mk l k hkl, h2]; rfl
                      clear hb h2
                      go_wp2_with fail
                      go_roundg (gk - 1)
                      case measure => omega
                      case rel => exact ⟨k, _, rfl, by go_num, by omega, by omega, hcut, rfl, HH5⟩
                    · have hb1 : ((mkS l)[k].toNat : Int) = 9 := by rw [at_mk l k hkl, h2]; rfl
                      clear hb h2
                      go_wp2_with fail
                      go_roundg (gk - 1)
                      case measure => omega
                      case rel => exact ⟨k, _, rfl, by go_num, by omega, by omega, hcut, rfl, HH5⟩
          · have HL2 : Hid ((l.drop (lo + 1)).dropWhile bl = l.dropWhile bl) := Lib.hid (lo_step h1 ((bl_iff _).2 (.inl h2)) HL.out)
            rw [Hln.out] at h1
            have hlt2 : (lo : Int) < (ln : Int) := by omega
            have hlt3 : lo < (mkS l).size := by omega
            have hb1 : ((mkS l)[lo].toNat : Int) = 32 := by rw [at_mk l lo hlt3, h2]; rfl
            clear h2
            go_wp2_with fail
            go_roundg (gk - 1)
            case measure => omega
            case rel => exact ⟨lo + 1, _, rfl, by go_num, by omega, rfl, HL2⟩
          · have HL2 : Hid ((l.drop (lo + 1)).dropWhile bl = l.dropWhile bl) := Lib.hid (lo_step h1 ((bl_iff _).2 (.inr h2)) HL.out)
            rw [Hln.out] at h1
            have hlt2 : (lo : Int) < (ln : Int) := by omega
            have hlt3 : lo < (mkS l).size := by omega
            have hb1 : ((mkS l)[lo].toNat : Int) = 9 := by rw [at_mk l lo hlt3, h2]; rfl
            clear h2
            go_wp2_with fail
            go_roundg (gk - 1)
            case measure => omega
            case rel => exact ⟨lo + 1, _, rfl, by go_num, by omega, rfl, HL2⟩
    · have hlt : i < n := by omega
      have hc10 : s.getD i 0 ≠ 10 := fun e => hend (.inr ⟨hlt, e⟩)
      have HNx : Hid (LinesTo s (i + 1) (cur ++ [s.getD i 0]) outs) := Lib.hid (LinesTo.byte HLi.out (by rw [Hn.out]; exact hlt) hc10)
      have hcs := cut_snoc cur (s.getD i 0)
      rw [Hl.out] at hcs
      have hlt' : i < (mkS s).size := by omega
      have hx10 : (((mkS s)[i].toNat : Int) == 10) = false := by rw [at_mk s i hlt']; exact byte_ne (k := 10) hc10
      have hne : ((i : Int) == (n : Int)) = false := by rw [beq_eq_false_iff_ne]; omega
      clear hend hc10
      by_cases h59 : s.getD i 0 = 59
      · have hx59 : ((mkS s)[i].toNat : Int) = 59 := by rw [at_mk s i hlt', h59]; rfl
        have HC : Hid (cutS (cur ++ [s.getD i 0]) = l) := Lib.hid (by rw [hcs, if_pos (.inr h59)])
        have HR : Hid (remB (cur ++ [s.getD i 0]) = true) := Lib.hid (by unfold remB; rw [List.any_append, h59]; simp)
        clear hcs h59
        go_wp2_with fail
        go_roundg (og - 1)
        case measure => omega
        case rel => exact ⟨i + 1, _, outs, HOi, by rw [HC.out], by rw [HR.out], by go_num, by omega, HBi, HNx⟩
      · have hx59 : (((mkS s)[i].toNat : Int) == 59) = false := by rw [at_mk s i hlt']; exact byte_ne (k := 59) h59
        cases hr : remB cur with
        | true =>
          have HC : Hid (cutS (cur ++ [s.getD i 0]) = l) := Lib.hid (by rw [hcs, if_pos (.inl hr)])
          have HR : Hid (remB (cur ++ [s.getD i 0]) = true) := Lib.hid (by unfold remB at hr ⊢; rw [List.any_append, hr]; rfl)
          clear hcs h59 hr
          go_wp2_with fail
          go_roundg (og - 1)
          case measure => omega
          case rel => exact ⟨i + 1, _, outs, HOi, by rw [HC.out], by rw [HR.out], by go_num, by omega, HBi, HNx⟩
        | false =>
          have HC : Hid (cutS (cur ++ [s.getD i 0]) = l ++ [s.getD i 0]) := Lib.hid (by rw [hcs, if_neg (fun h => h.elim (fun h => by unfold remB at hr; rw [hr] at h; cases h) h59)])
          have HR : Hid (remB (cur ++ [s.getD i 0]) = false) := Lib.hid (by unfold remB at hr ⊢; rw [List.any_append, hr, List.any_cons, beq_false_of_ne h59]; rfl)
          have hex : (mkS s).extract i (i + 1) = mkS [s.getD i 0] := by
            rw [cut_mk, take_snoc (by rw [Hn.out]; exact hlt), List.drop_left' (by rw [List.length_take, Hn.out]; omega)]
          have hD1 : (mkS [s.getD i 0]).size = 1 := by rw [mkS_size]; rfl
          have e1 : mkS l ++ mkS [s.getD i 0] = mkS (l ++ [s.getD i 0]) := mkS_append _ _
          have q0 : ¬ ln + 1 > 9223372036854775807 := by omega
          have q1 : (i : Int) + 1 ≤ (n : Int) := by omega
          have HE := Lib.hid e1
          clear hcs h59 hr
          generalize mkS [s.getD i 0] = D at *
          clear e1
          have e1 := HE.out
          go_wp2_with fail
          go_roundg (og - 1)
          case measure => omega
          case rel => exact ⟨i + 1, _, outs, HOi, by rw [HC.out, List.getD_eq_getElem?_getD], by rw [HR.out], by go_num, by omega, HBi, HNx⟩
-- end of cleaned
end Go.Proofs.YtdldochhondifaaGreatDoor
namespace Go.Proofs.YtdldochhondifaaGreatDoor
open Go.RowKit
attribute [local go_sem] Oper.semAt_some

theorem OwnS.at_ {w : World} {base : Nat} {v : Value} {ss : List (List UInt8)} (h : OwnS w base v ss) {k : Nat} {x : List UInt8} (hk : ss[k]? = some x) :
    ∃ b c, v = .slice (some ⟨b, 0, none⟩) ss.length c ∧ base ≤ b ∧ b < w.heap.size ∧ w.cell? ⟨b, k, none⟩ = some (.string (mkS x)) := by
  have hlt := (List.getElem?_eq_some_iff.1 hk).1
  rcases h.2 with ⟨_, h0⟩ | ⟨g, cap, cur, e1, hg, hh, _⟩
  · omega
  · have hc := World.ownsRow.cells h (g := g) (by rw [e1]; rfl)
    have hadd : ∀ j, (⟨g, 0, none⟩ : Addr).add j = ⟨g, j, none⟩ := fun j => by unfold Addr.add; split <;> simp_all
    refine ⟨g, cap, e1, hg, (Array.getElem?_eq_some_iff.1 hh).1, ?_⟩
    have := hc k (.string (mkS x)) (by rw [List.getElem?_map, hk]; rfl)
    rwa [hadd] at this
theorem OwnS.row {w w' : World} {base B : Nat} {v : Value} {ss : List (List UInt8)} (h : OwnS w base v ss) (hb : Below B w w') (hv : ∀ k, v.ownBlock = some k → k < B) : OwnS w' base v ss := own_at h fun k hk => hb.block k (hv k hk)
theorem OwnS.len {w : World} {base : Nat} {v : Value} {ss : List (List UInt8)} (h : OwnS w base v ss) : ∃ A c, v = .slice A ss.length c := by
  rcases h.2 with ⟨rfl, h0⟩ | ⟨g, cap, cur, e1, _⟩
  · exact ⟨none, 0, by rw [h0]⟩
  · exact ⟨_, cap, e1⟩
/-- How far the parts of s have been told. -/
def PartsTo (s : List UInt8) (i : Nat) (cur : List UInt8) (outs : List (List UInt8)) : Prop :=
  cur.length ≤ i ∧ outs.length ≤ i ∧ (∀ b ∈ cur, b ∈ s) ∧ ((i ≤ s.length ∧ outs ++ (splitC 44 cur (s.drop i)).map trimS = (splitC 44 [] s).map trimS) ∨ (i = s.length + 1 ∧ outs = (splitC 44 [] s).map trimS))
theorem PartsTo.zero (s : List UInt8) : PartsTo s 0 [] [] := ⟨Nat.le_refl _, Nat.le_refl _, by simp, .inl ⟨Nat.zero_le _, rfl⟩⟩
theorem PartsTo.line {s : List UInt8} {i : Nat} {cur : List UInt8} {outs : List (List UInt8)} (h : PartsTo s i cur outs) (hi : i < s.length) (hb : s.getD i 0 = 44) : PartsTo s (i + 1) [] (outs ++ [trimS cur]) := by
  obtain ⟨h1, h2, h4, h3⟩ := h
  refine ⟨by simp, by rw [List.length_append]; simp; omega, by simp, .inl ⟨by omega, ?_⟩⟩
  rcases h3 with ⟨_, h3⟩ | ⟨h3, _⟩
  · rw [getD_drop0 s i hi, hb, splitC, if_pos rfl, List.map_cons] at h3
    rw [List.append_assoc]
    exact h3
  · omega
theorem PartsTo.last {s : List UInt8} {cur : List UInt8} {outs : List (List UInt8)} (h : PartsTo s s.length cur outs) : PartsTo s (s.length + 1) [] (outs ++ [trimS cur]) := by
  obtain ⟨h1, h2, h4, h3⟩ := h
  refine ⟨by simp, by rw [List.length_append]; simp; omega, by simp, .inr ⟨rfl, ?_⟩⟩
  rcases h3 with ⟨_, h3⟩ | ⟨h3, _⟩
  · rw [List.drop_length, splitC] at h3
    exact h3
  · omega
theorem PartsTo.byte {s : List UInt8} {i : Nat} {cur : List UInt8} {outs : List (List UInt8)} (h : PartsTo s i cur outs) (hi : i < s.length) (hb : s.getD i 0 ≠ 44) : PartsTo s (i + 1) (cur ++ [s.getD i 0]) outs := by
  obtain ⟨h1, h2, h4, h3⟩ := h
  refine ⟨by rw [List.length_append]; simp; omega, by omega, fun b hm => ?_, .inl ⟨by omega, ?_⟩⟩
  · rcases List.mem_append.1 hm with hm | hm
    · exact h4 b hm
    · rw [List.mem_singleton] at hm
      subst hm
      rw [List.getD_eq_getElem?_getD, List.getElem?_eq_getElem hi]
      exact List.getElem_mem hi
  · rcases h3 with ⟨_, h3⟩ | ⟨h3, _⟩
    · rw [getD_drop0 s i hi, splitC, if_neg hb] at h3
      exact h3
    · omega
theorem PartsTo.done {s : List UInt8} {cur : List UInt8} {outs : List (List UInt8)} (h : PartsTo s (s.length + 1) cur outs) : outs = (splitC 44 [] s).map trimS := by
  rcases h.2.2.2 with ⟨h3, _⟩ | ⟨_, h3⟩
  · omega
  · exact h3
/-- One line, cleaned: its one text. -/
theorem clean_one {cur : List UInt8} {B : Nat} {e : Ending} {w : World} (hc : ∀ b ∈ cur, b ≠ 10 ∧ b ≠ 59) (h : TextsPost B (linesL cur) e w) :
    ∃ b c, e = .returned (.slice (some ⟨b, 0, none⟩) 1 c) ∧ B ≤ b ∧ b < w.heap.size ∧ w.cell? ⟨b, 0, none⟩ = some (.string (mkS (trimS cur))) := by
  obtain ⟨v, rfl, ho⟩ := h
  rw [lines_one (fun b hb => (hc b hb).1) (fun b hb => (hc b hb).2)] at ho
  obtain ⟨b, c, rfl, h1, h2, h3⟩ := ho.at_ (k := 0) rfl
  exact ⟨b, c, rfl, h1, h2, h3⟩
set_option maxRecDepth 100000 in
set_option maxHeartbeats 4000000 in
theorem partsOf_any (s : List UInt8) (hs : s.length ≤ 1000000) (hc : ∀ b ∈ s, b ≠ 10 ∧ b ≠ 59) (w : World) :
    Calls Tryz.prog 69 #[.string (mkS s)] w fun e w' => TextsPost w.heap.size ((splitC 44 [] s).map trimS) e w' ∧ Below w.heap.size w w' := by
  obtain ⟨n, hn⟩ : ∃ n, s.length = n := ⟨_, rfl⟩
  have hz : (mkS s).size = n := by rw [mkS_size, hn]
  have Hn := Lib.hid hn
  have hs' : n ≤ 1000000 := by omega
  have HC := Lib.hid hc
  clear hs hn hc
  have H00 := Lib.hid (PartsTo.zero s)
  go_enter Tryz.func69, Tryz.ntmps69
  go_wp2_with fail
  go_loopg [3, 4, 5] (n + 1) (fun gk ov lv iv wx => ∃ (i : Nat) (cur : List UInt8) (outs : List (List UInt8)), Hid (OwnS wx w.heap.size ov outs) ∧ lv = .string (mkS cur) ∧ iv = .int .i64 (i : Int) ∧ i + gk = n + 1 ∧ Hid (Below w.heap.size w wx) ∧ Hid (PartsTo s i cur outs))
  case atStart => exact ⟨0, [], [], Lib.hid (OwnS.nil _ _), rfl, rfl, by omega, Lib.hid (Below.refl _ _), H00⟩
  case round =>
    obtain ⟨i, cur, outs, HOi, rfl, rfl, hi, HBi, HLi⟩ := hrel
    clear H00
    have hcl : cur.length ≤ i := HLi.out.1
    have hol : outs.length ≤ i := HLi.out.2.1
    by_cases hdone : i = n + 1
    · have HE : Hid (outs = (splitC 44 [] s).map trimS) := Lib.hid (PartsTo.done (cur := cur) (by rw [Hn.out, ← hdone]; exact HLi.out))
      have hgt : ¬ (i : Int) ≤ (n : Int) := by omega
      clear hdone
      go_wp2_with fail
      go_ret
      exact ⟨⟨_, rfl, by rw [← HE.out]; exact HOi.out⟩, HBi.out⟩
    have hin : i ≤ n := by omega
    clear hdone
    by_cases hend : i = n ∨ (i < n ∧ s.getD i 0 = 44)
    · have HNx : Hid (PartsTo s (i + 1) [] (outs ++ [trimS cur])) := Lib.hid (by
        rcases hend with rfl | ⟨h1, h2⟩
        · rw [← Hn.out]; exact PartsTo.last (by rw [Hn.out]; exact HLi.out)
        · exact PartsTo.line HLi.out (by rw [Hn.out]; exact h1) h2)
      have HCl := Lib.hid (cleaned_any cur (by omega) wr)
      have HCc : Hid (∀ b ∈ cur, b ≠ 10 ∧ b ≠ 59) := Lib.hid fun b hb => HC.out b (HLi.out.2.2.1 b hb)
      rcases hend with rfl | ⟨hlt, hc⟩
      · go_wp2_with fail
        refine HCl.out.mono ?_
        rintro e W1 ⟨hp, hb⟩
        obtain ⟨b, c, rfl, hb1, hb2, hcell⟩ := clean_one HCc.out hp
        have HO1 := Lib.hid (HOi.out.below hb)
        have HB1 := Lib.hid (HBi.out.trans (hb.mono HBi.out.size))
        have HBz := Lib.hid HB1.out.size
        clear hp hb HCl
        go_wp2_with (at_builtin; refine app_one rfl _ _ 36 9 rfl (.string ⟨#[]⟩) 1 16 Tryz.underlying36 infoStr rfl (by decide) (by decide) w.heap.size _ _ _ (by rfl) HO1.out _ [.string (mkS (trimS cur))] (by rfl) rfl (fun x hx => by simp at hx; subst hx; rfl) rfl (by omega) HBz.out ?_; intro p1 W2 HA)
        have HO2 : Hid (OwnS W2 w.heap.size p1 (outs ++ [trimS cur])) := Lib.hid (OwnS.snoc HA.out.own)
        have HB2 := Lib.hid (HB1.out.trans HA.out.below)
        clear HA
        go_roundg (gk - 1)
        case measure => omega
        case rel => exact ⟨i + 1, [], outs ++ [trimS cur], HO2, rfl, by go_num, by omega, HB2, HNx⟩
      · have hlt' : i < (mkS s).size := by omega
        have hx : ((mkS s)[i].toNat : Int) = 44 := by rw [at_mk s i hlt', hc]; rfl
        clear hc
        go_wp2_with fail
        refine HCl.out.mono ?_
        rintro e W1 ⟨hp, hb⟩
        obtain ⟨b, c, rfl, hb1, hb2, hcell⟩ := clean_one HCc.out hp
        have HO1 := Lib.hid (HOi.out.below hb)
        have HB1 := Lib.hid (HBi.out.trans (hb.mono HBi.out.size))
        have HBz := Lib.hid HB1.out.size
        clear hp hb HCl
        go_wp2_with (at_builtin; refine app_one rfl _ _ 36 9 rfl (.string ⟨#[]⟩) 1 16 Tryz.underlying36 infoStr rfl (by decide) (by decide) w.heap.size _ _ _ (by rfl) HO1.out _ [.string (mkS (trimS cur))] (by rfl) rfl (fun x hx => by simp at hx; subst hx; rfl) rfl (by omega) HBz.out ?_; intro p1 W2 HA)
        have HO2 : Hid (OwnS W2 w.heap.size p1 (outs ++ [trimS cur])) := Lib.hid (OwnS.snoc HA.out.own)
        have HB2 := Lib.hid (HB1.out.trans HA.out.below)
        clear HA
        go_roundg (gk - 1)
        case measure => omega
        case rel => exact ⟨i + 1, [], outs ++ [trimS cur], HO2, rfl, by go_num, by omega, HB2, HNx⟩
    · have hlt : i < n := by omega
      have hc44 : s.getD i 0 ≠ 44 := fun e => hend (.inr ⟨hlt, e⟩)
      have HNx : Hid (PartsTo s (i + 1) (cur ++ [s.getD i 0]) outs) := Lib.hid (PartsTo.byte HLi.out (by rw [Hn.out]; exact hlt) hc44)
      have hlt' : i < (mkS s).size := by omega
      have hx44 : (((mkS s)[i].toNat : Int) == 44) = false := by rw [at_mk s i hlt']; exact byte_ne (k := 44) hc44
      have hne : ((i : Int) == (n : Int)) = false := by rw [beq_eq_false_iff_ne]; omega
      clear hend hc44
      have hex : (mkS s).extract i (i + 1) = mkS [s.getD i 0] := by
        rw [cut_mk, take_snoc (by rw [Hn.out]; exact hlt), List.drop_left' (by rw [List.length_take, Hn.out]; omega)]
      have hD1 : (mkS [s.getD i 0]).size = 1 := by rw [mkS_size]; rfl
      have HE := Lib.hid (mkS_append cur [s.getD i 0])
      have q0 : ¬ (mkS cur).size + 1 > 9223372036854775807 := by rw [mkS_size]; omega
      have q1 : (i : Int) + 1 ≤ (n : Int) := by omega
      generalize mkS [s.getD i 0] = D at *
      have e1 := HE.out
      go_wp2_with fail
      go_roundg (gk - 1)
      case measure => omega
      case rel => exact ⟨i + 1, _, outs, HOi, by rw [List.getD_eq_getElem?_getD], by go_num, by omega, HBi, HNx⟩
end Go.Proofs.YtdldochhondifaaGreatDoor
