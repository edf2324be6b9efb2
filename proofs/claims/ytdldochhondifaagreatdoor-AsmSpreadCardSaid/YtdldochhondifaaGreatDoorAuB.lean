/-
  PLAIN: the text of code reads back as that code, in whatever spread.
  Conditions: the code has no fault; a routine's name is one.
-/
import Derived.Test.YtdldochhondifaaGreatDoorAuA
namespace Go.Proofs.YtdldochhondifaaGreatDoor
open Go Go.RowKit Go.Lib

theorem itoa_small {n : Int} {c : UInt8} (h : c ∈ itoa n) : c.toNat ≤ 57 := by
  unfold itoa at h
  split at h
  · rcases List.mem_cons.1 h with rfl | h
    · decide
    · exact (dec_all _ c h).2
  · exact (dec_all _ c h).2
theorem regI_part {n : Int} (h : 0 ≤ n ∧ n ≤ 15) : regI (114 :: itoa n) = some n := by
  rw [regI_hit, numI_itoa ⟨by omega, by omega⟩]
  simp only
  rw [if_pos (by omega)]
theorem regI_num (n : Int) : regI (itoa n) = none := regI_miss fun h => by
  have := itoa_small (List.mem_of_mem_head? (by rw [h]; rfl))
  revert this
  decide
theorem labI_part {n : Int} (h : 0 ≤ n ∧ n < 10000) : labI (76 :: itoa n) = some n := by
  rw [labI_hit]
  unfold digI
  have hl : (itoa n).length ≤ 4 := by
    unfold itoa
    rw [if_neg (by omega)]
    exact dec_len 4 _ (by omega) (by omega)
  rw [if_pos hl, numI_itoa ⟨by omega, by omega⟩]
  simp only
  rw [if_pos h.1]

/-- What the line of an instruction tells. -/
def insOf (nb : Bool) (rt : Int → List UInt8) (m : Mac) : Ins :=
  ⟨{ m with n := if shK m.op = 2 ∨ (shK m.op = 4 ∧ nb = true) then 0 else m.n }, if shK m.op = 2 then some m.n else none, if shK m.op = 4 ∧ nb = true then some (rt m.n) else none⟩
def updI (nb : Bool) (rt : Int → List UInt8) (m : Mac) (x : Ins) (c : UInt8) : Ins :=
  if c = 100 then ⟨{ x.m with dst := m.dst }, x.goal, x.call⟩
  else if c = 97 then ⟨{ x.m with a := m.a }, x.goal, x.call⟩
  else if c = 98 then ⟨{ x.m with b := m.b }, x.goal, x.call⟩
  else if c = 116 then ⟨x.m, some m.n, x.call⟩
  else if c = 114 ∧ nb = true then ⟨x.m, x.goal, some (rt m.n)⟩
  else ⟨{ x.m with n := m.n }, x.goal, x.call⟩
/-- An instruction whose line reads back. -/
structure TellOk (nb : Bool) (rt : Int → List UInt8) (m : Mac) : Prop where
  ok : m.ok
  op : isOp m.op = true
  regs : RegsOk m
  zd : shD m.op = false → m.dst = 0
  za : shA m.op = false → m.a = 0
  zb : shB m.op = false → m.b = 0
  zn : shK m.op = 0 → m.n = 0
  goal : shK m.op = 2 → 0 ≤ m.n ∧ m.n < 10000
  name : shK m.op = 4 → nb = true → WdL (rt m.n) ∧ nameS (mkS (rt m.n)) = true
  num : shK m.op = 4 → nb = false → rt m.n = itoa m.n

/-- Which letters, what is used: all there are. -/
def ordTab : List (List UInt8 × Bool × Bool × Bool × Int) :=
  [([100, 110], true, false, false, 1), ([100, 97], true, true, false, 0), ([100, 97, 98], true, true, true, 0), ([100, 97, 110], true, true, false, 1), ([98, 97, 110], false, true, true, 1),
   ([100, 119], true, false, false, 3), ([97, 119], false, true, false, 3), ([116], false, false, false, 2), ([97, 116], false, true, false, 2), ([97, 98, 116], false, true, true, 2),
   ([114], false, false, false, 4), ([], false, false, false, 0), ([100], true, false, false, 0), ([97], false, true, false, 0)]
theorem ord_cases {op : Int} (h : isOp op = true) :
    (ordL op = [100, 110] ∧ shD op = true ∧ shA op = false ∧ shB op = false ∧ shK op = 1) ∨
    (ordL op = [100, 97] ∧ shD op = true ∧ shA op = true ∧ shB op = false ∧ shK op = 0) ∨
    (ordL op = [100, 97, 98] ∧ shD op = true ∧ shA op = true ∧ shB op = true ∧ shK op = 0 ∧ op < 19) ∨
    (ordL op = [100, 97, 110] ∧ shD op = true ∧ shA op = true ∧ shB op = false ∧ shK op = 1 ∧ 19 ≤ op) ∨
    (ordL op = [98, 97, 110] ∧ shD op = false ∧ shA op = true ∧ shB op = true ∧ shK op = 1) ∨
    (ordL op = [100, 119] ∧ shD op = true ∧ shA op = false ∧ shB op = false ∧ shK op = 3) ∨
    (ordL op = [97, 119] ∧ shD op = false ∧ shA op = true ∧ shB op = false ∧ shK op = 3) ∨
    (ordL op = [116] ∧ shD op = false ∧ shA op = false ∧ shB op = false ∧ shK op = 2) ∨
    (ordL op = [97, 116] ∧ shD op = false ∧ shA op = true ∧ shB op = false ∧ shK op = 2) ∨
    (ordL op = [97, 98, 116] ∧ shD op = false ∧ shA op = true ∧ shB op = true ∧ shK op = 2) ∨
    (ordL op = [114] ∧ shD op = false ∧ shA op = false ∧ shB op = false ∧ shK op = 4) ∨
    (ordL op = [] ∧ shD op = false ∧ shA op = false ∧ shB op = false ∧ shK op = 0) ∨
    (ordL op = [100] ∧ shD op = true ∧ shA op = false ∧ shB op = false ∧ shK op = 0) ∨
    (ordL op = [97] ∧ shD op = false ∧ shA op = true ∧ shB op = false ∧ shK op = 0) := by
  rw [isOp_iff] at h
  have key : ∀ k : Fin 48, 1 ≤ k.val → (ordTab.any fun t => decide (ordL (k.val : Int) = t.1) && decide (shD (k.val : Int) = t.2.1) && decide (shA (k.val : Int) = t.2.2.1) && decide (shB (k.val : Int) = t.2.2.2.1) && decide (shK (k.val : Int) = t.2.2.2.2)) = true := by decide +kernel
  have key1 : ∀ k : Fin 48, 19 ≤ k.val → ordL (k.val : Int) ≠ [100, 97, 98] := by decide +kernel
  have key2 : ∀ k : Fin 48, k.val < 19 → ordL (k.val : Int) ≠ [100, 97, 110] := by decide +kernel
  have k0 := key ⟨op.toNat, by omega⟩ (by simp; omega)
  have k1 := key1 ⟨op.toNat, by omega⟩
  have k2 := key2 ⟨op.toNat, by omega⟩
  simp only [show ((op.toNat : Nat) : Int) = op from by omega] at k0 k1 k2
  have h1 : ordL op = [100, 97, 98] → op < 19 := fun e => Decidable.byContradiction fun hn => k1 (by omega) e
  have h2 : ordL op = [100, 97, 110] → 19 ≤ op := fun e => Decidable.byContradiction fun hn => k2 (by omega) e
  have hm : (ordL op, shD op, shA op, shB op, shK op) ∈ ordTab := by
    obtain ⟨t, ht, he⟩ := List.any_eq_true.1 k0
    simp only [Bool.and_eq_true, decide_eq_true_eq] at he
    obtain ⟨⟨⟨⟨e1, e2⟩, e3⟩, e4⟩, e5⟩ := he
    rw [e1, e2, e3, e4, e5]
    exact ht
  unfold ordTab at hm
  simp only [List.mem_cons, List.not_mem_nil, or_false, Prod.mk.injEq] at hm
  rcases hm with ⟨e, hm⟩ | ⟨e, hm⟩ | ⟨e, a, b, c, d⟩ | ⟨e, a, b, c, d⟩ | ⟨e, hm⟩ | ⟨e, hm⟩ | ⟨e, hm⟩ | ⟨e, hm⟩ | ⟨e, hm⟩ | ⟨e, hm⟩ | ⟨e, hm⟩ | ⟨e, hm⟩ | ⟨e, hm⟩ | ⟨e, hm⟩
  · exact .inl ⟨e, hm⟩
  · exact .inr (.inl ⟨e, hm⟩)
  · exact .inr (.inr (.inl ⟨e, a, b, c, d, h1 e⟩))
  · exact .inr (.inr (.inr (.inl ⟨e, a, b, c, d, h2 e⟩)))
  · exact .inr (.inr (.inr (.inr (.inl ⟨e, hm⟩))))
  · exact .inr (.inr (.inr (.inr (.inr (.inl ⟨e, hm⟩)))))
  · exact .inr (.inr (.inr (.inr (.inr (.inr (.inl ⟨e, hm⟩))))))
  · exact .inr (.inr (.inr (.inr (.inr (.inr (.inr (.inl ⟨e, hm⟩)))))))
  · exact .inr (.inr (.inr (.inr (.inr (.inr (.inr (.inr (.inl ⟨e, hm⟩))))))))
  · exact .inr (.inr (.inr (.inr (.inr (.inr (.inr (.inr (.inr (.inl ⟨e, hm⟩)))))))))
  · exact .inr (.inr (.inr (.inr (.inr (.inr (.inr (.inr (.inr (.inr (.inl ⟨e, hm⟩))))))))))
  · exact .inr (.inr (.inr (.inr (.inr (.inr (.inr (.inr (.inr (.inr (.inr (.inl ⟨e, hm⟩)))))))))))
  · exact .inr (.inr (.inr (.inr (.inr (.inr (.inr (.inr (.inr (.inr (.inr (.inr (.inl ⟨e, hm⟩))))))))))))
  · exact .inr (.inr (.inr (.inr (.inr (.inr (.inr (.inr (.inr (.inr (.inr (.inr (.inr ⟨e, hm⟩))))))))))))
/-- Which letters an instruction has. -/
theorem ord_has {op : Int} (h : isOp op = true) {c : UInt8} (hc : c ∈ ordL op) :
    (c = 100 → shD op = true) ∧ (c = 97 → shA op = true) ∧ (c = 98 → shB op = true) ∧ (c = 116 → shK op = 2) ∧ (c = 114 → shK op = 4) := by
  rcases ord_cases h with ⟨e, h1, h2, h3, h4⟩ | ⟨e, h1, h2, h3, h4⟩ | ⟨e, h1, h2, h3, h4, _⟩ | ⟨e, h1, h2, h3, h4, _⟩ | ⟨e, h1, h2, h3, h4⟩ | ⟨e, h1, h2, h3, h4⟩ | ⟨e, h1, h2, h3, h4⟩ | ⟨e, h1, h2, h3, h4⟩ | ⟨e, h1, h2, h3, h4⟩ | ⟨e, h1, h2, h3, h4⟩ | ⟨e, h1, h2, h3, h4⟩ | ⟨e, h1, h2, h3, h4⟩ | ⟨e, h1, h2, h3, h4⟩ | ⟨e, h1, h2, h3, h4⟩ <;>
    rw [e] at hc <;> simp only [List.mem_cons, or_false, List.not_mem_nil] at hc <;>
    (repeat' (rcases hc with hc | hc)) <;> (try subst hc) <;> simp [h1, h2, h3, h4] at *
theorem fields_fold {nb : Bool} {rt : Int → List UInt8} {m : Mac} (hm : TellOk nb rt m) : (ordL m.op).foldl (updI nb rt m) (ins0 m.op) = insOf nb rt m := by
  obtain ⟨op, dst, a, b, n⟩ := m
  obtain ⟨_, ho, _, zd, za, zb, zn, _, _, _⟩ := hm
  simp only at ho zd za zb zn
  unfold insOf
  simp only
  rcases ord_cases ho with ⟨e, h1, h2, h3, h4⟩ | ⟨e, h1, h2, h3, h4⟩ | ⟨e, h1, h2, h3, h4, _⟩ | ⟨e, h1, h2, h3, h4, _⟩ | ⟨e, h1, h2, h3, h4⟩ | ⟨e, h1, h2, h3, h4⟩ | ⟨e, h1, h2, h3, h4⟩ | ⟨e, h1, h2, h3, h4⟩ | ⟨e, h1, h2, h3, h4⟩ | ⟨e, h1, h2, h3, h4⟩ | ⟨e, h1, h2, h3, h4⟩ | ⟨e, h1, h2, h3, h4⟩ | ⟨e, h1, h2, h3, h4⟩ | ⟨e, h1, h2, h3, h4⟩ <;>
    rw [e, h4] <;> rw [h1] at zd <;> rw [h2] at za <;> rw [h3] at zb <;> rw [h4] at zn <;>
    simp only [forall_const, reduceCtorEq, false_implies] at zd za zb zn <;> (try subst zd) <;> (try subst za) <;> (try subst zb) <;> (try subst zn) <;>
    cases nb <;> simp [updI, ins0]
theorem field_part {nb : Bool} {rt : Int → List UInt8} {m : Mac} (hm : TellOk nb rt m) (x : Ins) {c : UInt8} (hc : c ∈ ordL m.op) : fieldP nb x c (partL m rt c) = some (updI nb rt m x c) := by
  obtain ⟨c1, c2, c3, c4, c5⟩ := ord_has hm.op hc
  obtain ⟨r1, r2, r3⟩ := hm.regs
  unfold fieldP partL updI
  by_cases e1 : c = 100
  · rw [if_pos e1, if_pos e1, if_pos e1, regI_part (by have := r1 (c1 e1); omega)]; rfl
  rw [if_neg e1, if_neg e1, if_neg e1]
  by_cases e2 : c = 97
  · rw [if_pos e2, if_pos e2, if_pos e2, regI_part (by have := r2 (c2 e2); omega)]; rfl
  rw [if_neg e2, if_neg e2, if_neg e2]
  by_cases e3 : c = 98
  · rw [if_pos e3, if_pos e3, if_pos e3, regI_part (by have := r3 (c3 e3); omega)]; rfl
  rw [if_neg e3, if_neg e3, if_neg e3]
  by_cases e4 : c = 116
  · rw [if_pos e4, if_pos e4, if_pos e4, labI_part (hm.goal (c4 e4))]; rfl
  rw [if_neg e4, if_neg e4, if_neg e4]
  by_cases e5 : c = 114
  · rw [if_pos e5]
    cases nb with
    | true => rw [if_pos ⟨e5, rfl⟩, if_pos (hm.name (c5 e5) rfl).2, if_pos ⟨e5, rfl⟩]
    | false => rw [if_neg (by simp), if_neg (by simp), hm.num (c5 e5) rfl, numI_itoa hm.ok.n]; rfl
  · rw [if_neg e5, if_neg (fun h => e5 h.1), if_neg (fun h => e5 h.1), numI_itoa hm.ok.n]; rfl
theorem fields_parts {nb : Bool} {rt : Int → List UInt8} {m : Mac} (hm : TellOk nb rt m) : ∀ (cs : List UInt8) (x : Ins), (∀ c ∈ cs, c ∈ ordL m.op) → fieldsP nb x cs (cs.map (partL m rt)) = some (cs.foldl (updI nb rt m) x)
  | [], x, _ => by rw [fieldsP]; rfl; intro _ _ _ _ e; cases e
  | c :: cs, x, h => by
    rw [List.map_cons, fieldsP, field_part hm x (h c (by simp)), Option.bind_some, fields_parts hm cs _ (fun d hd => h d (by simp [hd]))]
    rfl
theorem part_wd {nb : Bool} {rt : Int → List UInt8} {m : Mac} (hm : TellOk nb rt m) {c : UInt8} (hc : c ∈ ordL m.op) : WdL (partL m rt c) := by
  have h114 : Wd 114 := ⟨by decide, by decide, by decide, by decide, by decide, by decide⟩
  have h76 : Wd 76 := ⟨by decide, by decide, by decide, by decide, by decide, by decide⟩
  unfold partL
  split
  · exact cons_wd h114 (itoa_wd _).2
  split
  · exact cons_wd h114 (itoa_wd _).2
  split
  · exact cons_wd h114 (itoa_wd _).2
  split
  · exact cons_wd h76 (itoa_wd _).2
  split
  · rename_i h
    have hk := (ord_has hm.op hc).2.2.2.2 h
    cases nb with
    | true => exact (hm.name hk rfl).1
    | false => rw [hm.num hk rfl]; exact itoa_wd _
  · exact itoa_wd _
theorem third_reg {nb : Bool} {rt : Int → List UInt8} {m : Mac} (hm : TellOk nb rt m) (h5 : 5 ≤ m.op ∧ m.op ≤ 32) : (regI ((partsL rt m).getD 2 [])).isSome = decide (m.op < 19) := by
  have h3 : (ordL m.op).length = 3 := ord_arith h5
  have hr := hm.regs.2.2
  unfold partsL
  rcases ord_cases hm.op with ⟨e, _⟩ | ⟨e, _⟩ | ⟨e, _, _, hb, _, h⟩ | ⟨e, _, _, _, _, h⟩ | ⟨e, _, _, _, hk⟩ | ⟨e, _⟩ | ⟨e, _⟩ | ⟨e, _⟩ | ⟨e, _⟩ | ⟨e, _, _, _, hk⟩ | ⟨e, _⟩ | ⟨e, _⟩ | ⟨e, _⟩ | ⟨e, _⟩ <;> rw [e] at h3 ⊢ <;> try (exact absurd h3 (by decide))
  · rw [decide_eq_true h, show ([100, 97, 98].map (partL m rt)).getD 2 [] = 114 :: itoa m.b from rfl, regI_part (by have := hr hb; omega)]
    rfl
  · rw [decide_eq_false (by omega), show ([100, 97, 110].map (partL m rt)).getD 2 [] = itoa m.n from rfl, regI_num]
    rfl
  · exfalso
    have key : ∀ k : Fin 33, 5 ≤ k.val → ordL (k.val : Int) ≠ [98, 97, 110] := by decide +kernel
    have := key ⟨m.op.toNat, by omega⟩ (by simp; omega)
    simp only [show ((m.op.toNat : Nat) : Int) = m.op from by omega] at this
    exact this e
  · exfalso
    have key : ∀ k : Fin 33, 5 ≤ k.val → ordL (k.val : Int) ≠ [97, 98, 116] := by decide +kernel
    have := key ⟨m.op.toNat, by omega⟩ (by simp; omega)
    simp only [show ((m.op.toNat : Nat) : Int) = m.op from by omega] at this
    exact this e
theorem op_reads {nb : Bool} {rt : Int → List UInt8} {m : Mac} (hm : TellOk nb rt m) : opP (wordL m.op) (partsL rt m) = some m.op := by
  have hlen : (partsL rt m).length = (ordL m.op).length := by unfold partsL; rw [List.length_map]
  refine opP_some hm.op ?_ fun op' ho' hlt => ?_
  · unfold fitP
    rw [decide_eq_true (show wordL m.op = wordL m.op from rfl), decide_eq_true hlen.symm]
    by_cases h5 : 5 ≤ m.op ∧ m.op ≤ 32
    · rw [third_reg hm h5]; simp
    · rw [decide_eq_false h5]; rfl
  · by_cases hw : wordL op' = wordL m.op
    · have hp := wordL_inj ho' hm.op hw
      have h1 := (isOp_iff _).1 ho'
      have h2 := (isOp_iff _).1 hm.op
      have hc : m.op = op' + 14 ∧ 5 ≤ op' ∧ op' ≤ 18 := by
        unfold plainI at hp
        split at hp <;> split at hp <;> omega
      unfold fitP
      rw [third_reg hm ⟨by omega, by omega⟩, decide_eq_true (show 5 ≤ op' ∧ op' ≤ 32 by omega), decide_eq_true (show op' < 19 by omega), decide_eq_false (show ¬ m.op < 19 by omega)]
      simp
    · exact fit_word hw

/-! One line. -/
def globalW : List UInt8 := [103, 108, 111, 98, 97, 108]
def routineW : List UInt8 := [114, 111, 117, 116, 105, 110, 101]
theorem word_wd {op : Int} (h : isOp op = true) : WdL (wordL op) ∧ wordL op ≠ globalW ∧ wordL op ≠ routineW := by
  rw [isOp_iff] at h
  have key : ∀ k : Fin 48, 1 ≤ k.val → (wordL (k.val : Int) ≠ [] ∧ (wordL (k.val : Int)).all (fun c => decide (97 ≤ c.toNat)) = true) ∧ wordL (k.val : Int) ≠ globalW ∧ wordL (k.val : Int) ≠ routineW := by decide +kernel
  have := key ⟨op.toNat, by omega⟩ (by simp; omega)
  simp only [show ((op.toNat : Nat) : Int) = op from by omega] at this
  refine ⟨⟨this.1.1, fun c hc => ?_⟩, this.2⟩
  have := of_decide_eq_true (List.all_eq_true.1 this.1.2 c hc)
  refine ⟨?_, ?_, ?_, ?_, ?_, ?_⟩ <;> (intro e; subst e; revert this; decide)
theorem take_word {s r : List UInt8} (h : WdL s) (hr : ∀ c, r.head? = some c → bl c = true) : (s ++ r).takeWhile (fun c => !bl c) = s ∧ (s ++ r).dropWhile (fun c => !bl c) = r := by
  have hs : ∀ c ∈ s, (!bl c) = true := fun c hc => by rw [(h.2 c hc).nb]; rfl
  rw [List.takeWhile_append_of_pos hs, List.dropWhile_append_of_pos hs]
  cases r with
  | nil => simp
  | cons a r => rw [List.takeWhile_cons, List.dropWhile_cons, hr a rfl]; simp
/-- The line of an instruction, in whatever spread. -/
theorem line_reads {nb : Bool} {rt : Int → List UInt8} {m : Mac} (hm : TellOk nb rt m) {w : List UInt8} (hw : Spread (lineL rt m) w) :
    ∃ s k, s ≠ [] ∧ Lines w (s :: List.replicate k []) ∧ (∀ st, lineP nb st s = (0, ⟨st.code ++ [insOf nb rt m], st.labs⟩)) ∧ wordP s = wordL m.op := by
  unfold lineL at hw
  obtain ⟨w1, nl, rfl, hw1, hnl⟩ := hw.parts
  obtain ⟨w2, mid, rfl, hw2, hmid⟩ := hw1.parts
  obtain ⟨lead, wd, rfl, hlead, hwd⟩ := hw2.parts
  obtain ⟨wwd, _⟩ := word_wd hm.op
  obtain rfl := wwd.spread hwd
  have hl : Bls lead := by
    obtain ⟨a, b, rfl, ha, hb⟩ := Spread.parts (a := [32]) (b := [32]) hlead
    have ha := ha.one
    have hb := hb.one
    unfold SpreadB at ha hb
    rw [if_pos rfl] at ha hb
    exact ha.2.app hb.2
  have hnl := hnl.one
  have hfin : ∀ (s : List UInt8), s.getLast? ≠ some 58 → wordP s = wordL m.op → cutsL (tailP s) = partsL rt m → ∀ st, lineP nb st s = (0, ⟨st.code ++ [insOf nb rt m], st.labs⟩) := by
    intro s h1 h2 h3 st
    unfold lineP
    rw [if_neg h1, h2, h3, op_reads hm]
    simp only
    have hf := fields_parts hm (ordL m.op) (ins0 m.op) (fun c h => h)
    rw [fields_fold hm] at hf
    rw [show partsL rt m = (ordL m.op).map (partL m rt) from rfl, hf]
  by_cases hp : partsL rt m = []
  · rw [if_pos hp] at hmid
    cases hmid
    rw [List.append_nil]
    obtain ⟨k, hk⟩ := line_lines hl (s := wordL m.op) ⟨wwd.1, wwd.head, fun c hc => (wwd.last c hc).nb, fun b hb => (wwd.2 b hb).2.2.1, fun b hb => (wwd.2 b hb).2.2.2.2.2⟩ hnl
    obtain ⟨t1, t2⟩ := take_word (r := []) wwd (fun c hc => by cases hc)
    rw [List.append_nil] at t1 t2
    refine ⟨_, k, wwd.1, hk, hfin _ (fun h => (wwd.last _ h).2.2.2.2.1 rfl) t1 ?_, t1⟩
    unfold tailP
    rw [t2, hp]
    rfl
  · rw [if_neg hp] at hmid
    obtain ⟨g, J, rfl, hg, hJ⟩ := Spread.parts (a := [32]) (b := join (partsL rt m) [44, 32]) hmid
    have hg := hg.one
    unfold SpreadB at hg
    rw [if_pos rfl] at hg
    have hps : ∀ p ∈ partsL rt m, WdL p := fun p h => by
      unfold partsL at h
      obtain ⟨c, hc, rfl⟩ := List.mem_map.1 h
      exact part_wd hm hc
    obtain ⟨j1, j2, j3, j4, j5⟩ := join_cuts (partsL rt m) hp hps J [] hJ (fun b hb => by simp at hb)
    obtain ⟨t1, t2⟩ := take_word (r := g ++ J) wwd (fun c hc => by
      rw [head_app hg.1] at hc
      exact hg.2 c (List.mem_of_mem_head? (by rw [hc]; rfl)))
    have hlast : (wordL m.op ++ (g ++ J)).getLast? = J.getLast? := by
      rw [← List.append_assoc, List.getLast?_append]
      cases hl : J.getLast? with
      | none => exact absurd (List.getLast?_eq_none_iff.1 hl) j2
      | some z => rfl
    obtain ⟨k, hk⟩ := line_lines hl (s := wordL m.op ++ (g ++ J)) ⟨by simp [wwd.1], fun c hc => by rw [head_app wwd.1] at hc; exact wwd.head c hc, fun c hc => by rw [hlast] at hc; exact (j4 c hc).nb, fun b hb => by
        rcases List.mem_append.1 hb with h | h
        · exact (wwd.2 b h).2.2.1
        · rcases List.mem_append.1 h with h | h
          · exact (bl_ne (hg.2 b h)).2.1
          · exact (j5 b h).1, fun b hb => by
        rcases List.mem_append.1 hb with h | h
        · exact (wwd.2 b h).2.2.2.2.2
        · rcases List.mem_append.1 h with h | h
          · exact (bl_ne (hg.2 b h)).2.2.2
          · exact (j5 b h).2⟩ hnl
    refine ⟨_, k, by simp [wwd.1], by rw [show lead ++ wordL m.op ++ (g ++ J) ++ nl = lead ++ (wordL m.op ++ (g ++ J)) ++ nl by simp]; exact hk, hfin _ (fun h => by rw [hlast] at h; exact (j4 _ h).2.2.2.2.1 rfl) t1 ?_, t1⟩
    unfold tailP
    rw [t2, drop_bls hg.2, drop_id (fun c hc => (j3 c hc).nb)]
    unfold cutsL
    rw [if_neg j2, j1]
/-- The line of a label, in whatever spread. -/
theorem label_reads (nb : Bool) {i : Nat} (hi : i < 10000) {w : List UInt8} (hw : Spread (labelL i) w) :
    ∃ s k, s ≠ [] ∧ Lines w (s :: List.replicate k []) ∧ (∀ st, (∀ x ∈ st.labs, x.1 ≠ (i : Int)) → lineP nb st s = (0, ⟨st.code, st.labs ++ [((i : Int), st.code.length)]⟩)) ∧ wordP s ≠ globalW ∧ wordP s ≠ routineW := by
  unfold labelL at hw
  rw [show 76 :: itoa (i : Int) ++ [58, 10] = (76 :: itoa (i : Int) ++ [58]) ++ [10] by simp] at hw
  obtain ⟨s, nl, rfl, hs, hnl⟩ := hw.parts
  have hit := itoa_wd (i : Int)
  have hmem : ∀ c ∈ 76 :: itoa (i : Int) ++ [58], bl c = false ∧ c ≠ 32 ∧ c ≠ 44 ∧ c ≠ 10 ∧ c ≠ 59 := fun c hc => by
    rcases List.mem_append.1 hc with h | h
    · rcases List.mem_cons.1 h with rfl | h
      · decide
      · have := hit.2 c h
        exact ⟨this.nb, this.1, this.2.2.2.1, this.2.2.1, this.2.2.2.2.2⟩
    · rw [List.mem_singleton] at h
      subst h
      decide
  obtain rfl := hs.plain fun c hc => ⟨(hmem c hc).2.1, (hmem c hc).2.2.1, (hmem c hc).2.2.2.1⟩
  obtain ⟨k, hk⟩ := line_lines (u := []) (fun b hb => by simp at hb) (s := 76 :: itoa (i : Int) ++ [58]) ⟨by simp, fun c hc => (hmem c (List.mem_of_mem_head? (by rw [hc]; rfl))).1, fun c hc => (hmem c (List.mem_of_getLast? hc)).1, fun b hb => (hmem b hb).2.2.2.1, fun b hb => (hmem b hb).2.2.2.2⟩ hnl.one
  rw [List.nil_append] at hk
  have hw76 : wordP (76 :: itoa (i : Int) ++ [58]) = 76 :: itoa (i : Int) ++ [58] := by
    unfold wordP
    have := List.takeWhile_append_of_pos (l₁ := 76 :: itoa (i : Int) ++ [58]) (l₂ := []) (p := fun c => !bl c) (fun c hc => by rw [(hmem c hc).1]; rfl)
    rw [List.append_nil] at this
    rw [this]
    simp
  refine ⟨_, k, by simp, hk, fun st hst => ?_, by rw [hw76]; exact ⟨fun e => (by cases e), fun e => (by cases e)⟩⟩
  unfold lineP
  rw [if_pos List.getLast?_concat, List.dropLast_concat, labI_part ⟨by omega, by omega⟩]
  simp only
  rw [if_neg]
  rw [List.any_eq_true]
  rintro ⟨x, hx, he⟩
  exact hst x hx (by simpa using he)
end Go.Proofs.YtdldochhondifaaGreatDoor
