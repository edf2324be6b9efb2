/-
  Two registers change their names: what that does to liveness, clashes, and a unit's faults.
  Conditions: as the theorems say.
-/
import Derived.Test.YtiknhfbkphoceaaGreatDoorOfH
namespace Go.Proofs.YtiknhfbkphoceaaGreatDoor
open Go.RowKit

/-- The other one of two names. -/
def swR (p q r : Int) : Int := if r = p then q else if r = q then p else r
def swV (p q : Int) (v : Opd) : Opd := if v.reg = true then ⟨true, swR p q v.n⟩ else v
def swI (p q : Int) (x : InsU) : InsU := ⟨x.op, swR p q x.dst, swV p q x.a, swV p q x.b, x.fn, x.args.map (swV p q)⟩
def swB (p q : Int) (b : BlkU) : BlkU := ⟨[], b.list.map (swI p q), b.kind, swV p q b.on, b.to⟩
def swF (p q : Int) (f : FunU) : FunU := ⟨f.name, f.params, f.regs, f.blocks.map (swB p q)⟩
section
variable {p q : Int}
theorem swR_swR (r : Int) : swR p q (swR p q r) = r := by
  unfold swR
  by_cases h1 : r = p
  · rw [if_pos h1]
    by_cases h2 : q = p
    · rw [if_pos h2]; omega
    · rw [if_neg h2, if_pos rfl]; exact h1.symm
  · rw [if_neg h1]
    by_cases h2 : r = q
    · rw [if_pos h2, if_pos rfl]; exact h2.symm
    · rw [if_neg h2, if_neg h1, if_neg h2]
theorem swR_eq (r s : Int) : swR p q r = s ↔ r = swR p q s := ⟨fun h => by rw [← h, swR_swR], fun h => by rw [h, swR_swR]⟩
theorem swR_inj {r s : Int} (h : swR p q r = swR p q s) : r = s := by rw [← swR_swR (p := p) (q := q) r, h, swR_swR]
theorem swR_in {n : Int} (hp : 0 ≤ p ∧ p < n) (hq : 0 ≤ q ∧ q < n) (r : Int) : (0 ≤ swR p q r ∧ swR p q r < n) ↔ (0 ≤ r ∧ r < n) := by
  unfold swR
  split
  · omega
  · split <;> omega
theorem swR_ge (hp : 0 ≤ p) (hq : 0 ≤ q) (r : Int) : 0 ≤ swR p q r ↔ 0 ≤ r := by
  unfold swR
  split
  · omega
  · split <;> omega
theorem swR_neg (hp : 0 ≤ p) (hq : 0 ≤ q) (r : Int) : swR p q r = -1 ↔ r = -1 := by
  unfold swR
  split
  · omega
  · split <;> omega
theorem swV_zero (v : Opd) : swV p q v = Opd.zero ↔ v = Opd.zero := by
  obtain ⟨r, n⟩ := v
  unfold swV Opd.zero
  cases r <;> simp
theorem occV_sw (v : Opd) : occV (swV p q v) = (occV v).map (swR p q) := by
  obtain ⟨r, n⟩ := v
  unfold occV swV
  cases r <;> simp
theorem occVs_sw (vs : List Opd) : occVs (vs.map (swV p q)) = (occVs vs).map (swR p q) := by
  unfold occVs
  rw [List.map_map, List.map_flatten, List.map_map]
  congr 1
  exact List.map_congr_left fun v _ => occV_sw v
theorem mem_sw {l : List Int} {r : Int} : r ∈ l.map (swR p q) ↔ swR p q r ∈ l := by
  rw [List.mem_map]
  constructor
  · rintro ⟨a, ha, rfl⟩
    rwa [swR_swR]
  · intro h
    exact ⟨_, h, swR_swR r⟩
theorem takes_sw (x : InsU) (r : Int) : takesU (swI p q x) r = takesU x (swR p q r) := by
  unfold takesU swI
  simp only [occV_sw, occVs_sw, ← List.map_append, mem_sw]
theorem upTo_sw (xs : List InsU) (S : Int → Bool) (r : Int) : upTo (xs.map (swI p q)) (fun r => S (swR p q r)) r = upTo xs S (swR p q r) := by
  induction xs with
  | nil => rfl
  | cons x xs ih =>
    show (takesU (swI p q x) r || (upTo (xs.map (swI p q)) (fun r => S (swR p q r)) r && decide ((swI p q x).dst ≠ r))) = _
    rw [ih, takes_sw]
    show _ = (takesU x (swR p q r) || (upTo xs S (swR p q r) && decide (x.dst ≠ swR p q r)))
    congr 2
    show decide (swR p q x.dst ≠ r) = _
    rw [decide_eq_decide, ne_eq, ne_eq, swR_eq]
theorem onU_sw (b : BlkU) (r : Int) : decide (r ∈ occV (swB p q b).on) = decide (swR p q r ∈ occV b.on) := by
  show decide (r ∈ occV (swV p q b.on)) = _
  rw [occV_sw, decide_eq_decide, mem_sw]
theorem endU_sw (b : BlkU) (I : Nat → Int → Bool) (r : Int) : endU (swB p q b) (fun i r => I i (swR p q r)) r = endU b I (swR p q r) := by
  unfold endU
  rw [onU_sw]
  rfl
theorem stepU_sw (bs : List BlkU) (I : Nat → Int → Bool) (i : Nat) (r : Int) : stepU (bs.map (swB p q)) (fun i r => I i (swR p q r)) i r = stepU bs I i (swR p q r) := by
  unfold stepU
  rw [List.getElem?_map]
  cases hb : bs[i]? with
  | none => rfl
  | some b =>
    show upTo (b.list.map (swI p q)) (endU (swB p q b) fun i r => I i (swR p q r)) r = upTo b.list (endU b I) (swR p q r)
    rw [← upTo_sw]
    exact upTo_congr (fun r => endU_sw b I r) r
theorem inU_sw (bs : List BlkU) (i : Nat) (r : Int) : inU (bs.map (swB p q)) i r = inU bs i (swR p q r) := by
  rw [Bool.eq_iff_iff]
  constructor
  · intro h
    refine inU_least (I := fun i r => inU bs i (swR p q r)) (fun j s hs => ?_) i r h
    rw [stepU_sw] at hs
    exact inU_step _ _ hs
  · intro h
    have h2 := inU_least (I := fun i r => inU (bs.map (swB p q)) i (swR p q r)) (fun j s hs => ?_) i _ h
    · simp only [swR_swR] at h2
      exact h2
    · have e := stepU_sw (p := p) (q := q) bs (fun i r => inU (bs.map (swB p q)) i (swR p q r)) j (swR p q s)
      simp only [swR_swR] at e
      rw [← e] at hs
      exact inU_step _ _ hs
def swE (p q : Int) (e : InsU × (Int → Bool)) : InsU × (Int → Bool) := (swI p q e.1, fun r => e.2 (swR p q r))
theorem aheadS_sw (x : InsU) (S : Int → Bool) : aheadS (swI p q x) (fun r => S (swR p q r)) = fun r => aheadS x S (swR p q r) := by
  funext r
  have h := upTo_sw (p := p) (q := q) [x] S r
  exact h
theorem evF_sw : ∀ (l : List InsU) (S : Int → Bool), evF (l.map (swI p q)) (fun r => S (swR p q r)) = (evF l S).map (swE p q)
  | [], _ => rfl
  | x :: l, S => by
    show (swI p q x, fun r => S (swR p q r)) :: evF (l.map (swI p q)) (aheadS (swI p q x) fun r => S (swR p q r)) = swE p q (x, S) :: (evF l (aheadS x S)).map (swE p q)
    rw [aheadS_sw, evF_sw l (aheadS x S)]
    rfl
theorem evB_sw (bs : List BlkU) (b : BlkU) : evB (bs.map (swB p q)) (swB p q b) = (evB bs b).map (swE p q) := by
  unfold evB
  have h1 : endU (swB p q b) (inU (bs.map (swB p q))) = fun r => endU b (inU bs) (swR p q r) := by
    funext r
    rw [show inU (bs.map (swB p q)) = fun i r => inU bs i (swR p q r) from funext fun i => funext fun r => inU_sw bs i r]
    exact endU_sw b (inU bs) r
  rw [h1, show (swB p q b).list.reverse = b.list.reverse.map (swI p q) from by rw [List.map_reverse]; rfl]
  exact evF_sw _ _
theorem evAll_sw (bs : List BlkU) (k : Nat) : evAll (bs.map (swB p q)) k = (evAll bs k).map (swE p q) := by
  unfold evAll
  rw [← List.map_take, List.map_map, List.map_flatten, List.map_map]
  congr 1
  exact List.map_congr_left fun b _ => evB_sw bs b
theorem asks_sw (x : InsU) (r : Int) : asksC (swI p q x) r = asksC x (swR p q r) := by
  unfold asksC
  show (!(decide (x.op = 1) && ((swV p q x.a).reg && decide ((swV p q x.a).n = r)))) = _
  obtain ⟨o, d, ⟨ar, an⟩, b, fn, args⟩ := x
  cases ar with
  | false => rfl
  | true =>
    show (!(decide (o = 1) && (true && decide (swR p q an = r)))) = (!(decide (o = 1) && (true && decide (an = swR p q r))))
    rw [show decide (swR p q an = r) = decide (an = swR p q r) from by rw [decide_eq_decide, swR_eq]]
theorem evC_sw (hp : 0 ≤ p) (hq : 0 ≤ q) (e : InsU × (Int → Bool)) (a b : Int) : evC (swE p q e) a b = evC e (swR p q a) (swR p q b) := by
  obtain ⟨x, T⟩ := e
  unfold evC swE
  simp only [asks_sw]
  show (decide (0 ≤ swR p q x.dst) && (decide (swR p q x.dst = a) && _)) = _
  rw [show decide (0 ≤ swR p q x.dst) = decide (0 ≤ x.dst) from by rw [decide_eq_decide, swR_ge hp hq], show decide (swR p q x.dst = a) = decide (x.dst = swR p q a) from by rw [decide_eq_decide, swR_eq]]
theorem ofS_sw (hp : 0 ≤ p) (hq : 0 ≤ q) (bs : List BlkU) (a b : Int) : ofS (bs.map (swB p q)) a b = ofS bs (swR p q a) (swR p q b) := by
  unfold ofS clashS beginS
  rw [inU_sw, inU_sw, List.length_map, evAll_sw, List.any_map]
  have h1 : decide (a ≠ b) = decide (swR p q a ≠ swR p q b) := by
    rw [decide_eq_decide]
    exact ⟨fun h e => h (swR_inj e), fun h e => h (by rw [e])⟩
  rw [h1]
  congr 2
  refine congrArg (fun F => List.any (evAll bs bs.length) F) ?_
  funext e
  show (evC (swE p q e) a b || evC (swE p q e) b a) = _
  rw [evC_sw hp hq, evC_sw hp hq]
theorem acrossS_sw (bs : List BlkU) (k : Nat) (r : Int) : acrossS (evAll (bs.map (swB p q)) k) r = acrossS (evAll bs k) (swR p q r) := by
  unfold acrossS
  rw [evAll_sw, List.any_map]
  refine congrArg (fun F => List.any (evAll bs k) F) ?_
  funext e
  obtain ⟨x, T⟩ := e
  show (decide (x.op = 20) && (decide (r ≠ swR p q x.dst) && T (swR p q r))) = (decide (x.op = 20) && (decide (swR p q r ≠ x.dst) && T (swR p q r)))
  rw [show decide (r ≠ swR p q x.dst) = decide (swR p q r ≠ x.dst) from by rw [decide_eq_decide, ne_eq, ne_eq, swR_eq]]
end
theorem nodup_len : ∀ (l m : List Int), l.Nodup → (∀ x ∈ l, x ∈ m) → l.length ≤ m.length
  | [], _, _, _ => Nat.zero_le _
  | x :: l, m, hd, h => by
    have hx := h x (by simp)
    have h1 := nodup_len l (m.erase x) (List.nodup_cons.1 hd).2 (fun y hy => (List.mem_erase_of_ne (fun e => (List.nodup_cons.1 hd).1 (by rw [← e]; exact hy))).2 (h y (by simp [hy])))
    rw [List.length_erase_of_mem hx] at h1
    have : 0 < m.length := List.length_pos_of_mem hx
    simp only [List.length_cons]
    omega
theorem listS_nodup (n : Nat) (S : Int → Bool) : (listS n S).Nodup := List.Pairwise.imp (fun {a b} (h : a < b) => by omega) (listS_rising n S)
theorem listS_sw_le {p q : Int} {n : Nat} (hp : 0 ≤ p ∧ p < (n : Int)) (hq : 0 ≤ q ∧ q < (n : Int)) {S T : Int → Bool} (h : ∀ r, T r = S (swR p q r)) : (listS n T).length ≤ (listS n S).length := by
  have h1 := nodup_len ((listS n T).map (swR p q)) (listS n S) (by
    rw [List.Nodup, List.pairwise_map]
    exact List.Pairwise.imp (fun {a b} hab e => hab (swR_inj e)) (listS_nodup n T)) (fun x hx => by
    obtain ⟨y, hy, rfl⟩ := List.mem_map.1 hx
    rw [listS_mem] at hy ⊢
    have := (swR_in hp hq y).2 ⟨hy.1, hy.2.1⟩
    exact ⟨this.1, this.2, by rw [← h]; exact hy.2.2⟩)
  rwa [List.length_map] at h1
theorem listS_sw {p q : Int} {n : Nat} (hp : 0 ≤ p ∧ p < (n : Int)) (hq : 0 ≤ q ∧ q < (n : Int)) {S T : Int → Bool} (h : ∀ r, T r = S (swR p q r)) : (listS n T).length = (listS n S).length :=
  Nat.le_antisymm (listS_sw_le hp hq h) (listS_sw_le hp hq (fun r => by rw [h, swR_swR]))
theorem badOf_map {α β : Type} (f : Nat → β → Int) (g : α → β) (l : List α) (k : Nat) : badOf f (l.map g) k = badOf (fun i x => f i (g x)) l k := by
  unfold badOf
  rw [List.getElem?_map]
  cases l[k]? <;> rfl
theorem firstE_map {α β : Type} (f : Nat → β → Int) (g : α → β) (l : List α) : firstE f (l.map g) = firstE (fun i x => f i (g x)) l := by
  unfold firstE
  rw [List.length_map, show badOf f (l.map g) = badOf (fun i x => f i (g x)) l from funext fun k => badOf_map f g l k]
theorem firstE_congr {α : Type} {f g : Nat → α → Int} {l : List α} (h : ∀ (i : Nat) (x : α), l[i]? = some x → f i x = g i x) : firstE f l = firstE g l := by
  unfold firstE
  rw [show badOf f l = badOf g l from funext fun k => by
    unfold badOf
    cases hk : l[k]? with
    | none => rfl
    | some x => exact h k x hk]
section
variable {p q regs : Int}
theorem valE_sw (hp : 0 ≤ p ∧ p < regs) (hq : 0 ≤ q ∧ q < regs) (v : Opd) : valE regs (swV p q v) = valE regs v := by
  obtain ⟨r, n⟩ := v
  cases r with
  | false => rfl
  | true =>
    unfold valE swV inB
    simp only [if_true]
    have := swR_in hp hq n
    have e : decide (0 ≤ swR p q n ∧ swR p q n ≤ regs - 1) = decide (0 ≤ n ∧ n ≤ regs - 1) := by
      rw [decide_eq_decide]
      omega
    rw [e]
theorem dstE_sw (hp : 0 ≤ p ∧ p < regs) (hq : 0 ≤ q ∧ q < regs) (n : Int) : dstE regs (swR p q n) = dstE regs n := by
  unfold dstE inB
  have := swR_in hp hq n
  have e : decide (0 ≤ swR p q n ∧ swR p q n ≤ regs - 1) = decide (0 ≤ n ∧ n ≤ regs - 1) := by
    rw [decide_eq_decide]
    omega
  rw [e]
theorem endE_sw (hp : 0 ≤ p ∧ p < regs) (hq : 0 ≤ q ∧ q < regs) (nb : Int) (b : BlkU) : endE nb regs (swB p q b) = endE nb regs b := by
  unfold endE
  show (if inB b.kind 1 3 = false then 4 else if b.to.length ≠ waysU b.kind then 9 else if (b.to.any fun n => !inB n 1 (nb - 1)) = true then 3 else if (b.kind = 3 ∧ b.to.getD 0 0 = b.to.getD 1 0) ∨ (b.kind = 2 ∧ swV p q b.on ≠ Opd.zero) then 5 else valE regs (swV p q b.on)) = _
  have n1 : (swV p q b.on = Opd.zero) = (b.on = Opd.zero) := propext (swV_zero b.on)
  rw [valE_sw hp hq]
  simp only [ne_eq, n1]
theorem insE_sw (hp : 0 ≤ p ∧ p < regs) (hq : 0 ≤ q ∧ q < regs) (ps : List Int) (x : InsU) : insE ps regs (swI p q x) = insE ps regs x := by
  have e1 : (swI p q x).op = x.op := rfl
  have e2 : (swI p q x).dst = swR p q x.dst := rfl
  have e3 : (swI p q x).a = swV p q x.a := rfl
  have e4 : (swI p q x).b = swV p q x.b := rfl
  have e5 : (swI p q x).fn = x.fn := rfl
  have e6 : (swI p q x).args = x.args.map (swV p q) := rfl
  have e7 : argE ps regs (swI p q x) = argE ps regs x := by
    unfold argE
    rw [e1, e5, e6, List.length_map, firstE_map]
    simp only [valE_sw hp hq]
  have n1 : (swR p q x.dst = -1) = (x.dst = -1) := propext (swR_neg hp.1 hq.1 x.dst)
  have n2 : (swV p q x.a = Opd.zero) = (x.a = Opd.zero) := propext (swV_zero x.a)
  have n3 : (swV p q x.b = Opd.zero) = (x.b = Opd.zero) := propext (swV_zero x.b)
  unfold insE
  rw [e7, e1, e2, e3, e4, e5, e6, List.length_map, dstE_sw hp hq, valE_sw hp hq, valE_sw hp hq]
  simp only [ne_eq, n1, n2, n3]
theorem bodyE_sw {f : FunU} (hp : 0 ≤ p ∧ p < f.regs) (hq : 0 ≤ q ∧ q < f.regs) (hph : ∀ b ∈ f.blocks, b.phis = []) (ps : List Int) : bodyE ps (swF p q f) = bodyE ps f := by
  unfold bodyE
  show (if firstE (fun _ b => endE ((f.blocks.map (swB p q)).length : Int) f.regs b) (f.blocks.map (swB p q)) ≠ 0 then firstE (fun _ b => endE ((f.blocks.map (swB p q)).length : Int) f.regs b) (f.blocks.map (swB p q))
    else firstE (fun i b => blkE ps f.regs (aheadU (f.blocks.map (swB p q))) i b) (f.blocks.map (swB p q))) = _
  have h1 : firstE (fun _ b => endE ((f.blocks.map (swB p q)).length : Int) f.regs b) (f.blocks.map (swB p q)) = firstE (fun _ b => endE (f.blocks.length : Int) f.regs b) f.blocks := by
    rw [firstE_map, List.length_map]
    simp only [endE_sw hp hq]
  have h2 : firstE (fun i b => blkE ps f.regs (aheadU (f.blocks.map (swB p q))) i b) (f.blocks.map (swB p q)) = firstE (fun i b => blkE ps f.regs (aheadU f.blocks) i b) f.blocks := by
    rw [firstE_map]
    refine firstE_congr fun i b hb => ?_
    have hb0 := hph b (List.mem_of_getElem? hb)
    unfold blkE
    rw [hb0]
    show (if firstE _ [] ≠ 0 then _ else firstE (fun _ x => insE ps f.regs x) (b.list.map (swI p q))) = _
    rw [firstE_map]
    simp only [insE_sw hp hq]
    rfl
  rw [h1, h2]
end
theorem manyU_sw (p q : Int) {bs : List BlkU} (hph : ∀ b ∈ bs, b.phis = []) : manyU (bs.map (swB p q)) = manyU bs := by
  unfold manyU
  rw [List.map_map]
  congr 1
  refine List.map_congr_left fun b hb => ?_
  rw [hph b hb]
  show ([] : List PhiU).length + (b.list.map (swI p q)).length = _
  rw [List.length_map]
theorem map_set_same {α β : Type} (g : α → β) {l : List α} {k : Nat} {x y : α} (h : l[k]? = some x) (hg : g y = g x) : (l.set k y).map g = l.map g := by
  apply List.ext_getElem?
  intro i
  rw [List.getElem?_map, List.getElem?_map, List.getElem?_set]
  split
  · rename_i e
    subst e
    rw [if_pos (List.getElem?_eq_some_iff.1 h).1, h]
    exact congrArg some hg
  · rfl
theorem unitF_sw {gs : List Glob} {fs : List FunU} {k : Nat} {f : FunU} {p q : Int} (h : fs[k]? = some f) (hp : 0 ≤ p ∧ p < f.regs) (hq : 0 ≤ q ∧ q < f.regs) (hph : ∀ b ∈ f.blocks, b.phis = []) : unitF gs (fs.set k (swF p q f)) = unitF gs fs := by
  have hn : (fs.set k (swF p q f)).map FunU.name = fs.map FunU.name := map_set_same FunU.name h rfl
  have hs : (fs.set k (swF p q f)).map FunU.params = fs.map FunU.params := map_set_same FunU.params h rfl
  have hat : ∀ j, (fs.set k (swF p q f))[j]? = if k = j then some (swF p q f) else fs[j]? := fun j => by
    rw [List.getElem?_set]
    rw [if_pos (List.getElem?_eq_some_iff.1 h).1]
  have hhd : ∀ had, headE had (swF p q f) = headE had f := fun had => by
    unfold headE
    show (if nameS f.name = false then 12 else if (had.any fun h => h.toList == f.name.toList) = true then 7 else if ¬ (0 ≤ f.params ∧ f.params ≤ 6) ∨ ¬ (f.params ≤ f.regs ∧ f.regs ≤ 100) then 3 else if ¬ (1 ≤ (f.blocks.map (swB p q)).length ∧ (f.blocks.map (swB p q)).length ≤ 40) ∨ 300 < manyU (f.blocks.map (swB p q)) then 2 else 0) = _
    rw [List.length_map, manyU_sw p q hph]
  have htk : ∀ i, ((fs.set k (swF p q f)).take i).map FunU.name = (fs.take i).map FunU.name := fun i => by rw [List.map_take, hn, ← List.map_take]
  have b1 : badOf (fun i g => headE (gs.map Glob.name ++ ((fs.set k (swF p q f)).take i).map FunU.name) g) (fs.set k (swF p q f)) = badOf (fun i g => headE (gs.map Glob.name ++ (fs.take i).map FunU.name) g) fs := by
    funext j
    unfold badOf
    rw [hat]
    by_cases e : k = j
    · subst e
      rw [if_pos rfl, h]
      simp only
      rw [hhd, htk]
    · rw [if_neg e]
      cases fs[j]? with
      | none => rfl
      | some g =>
        simp only
        rw [htk]
  have b2 : badOf (fun _ g => bodyE ((fs.set k (swF p q f)).map FunU.params) g) (fs.set k (swF p q f)) = badOf (fun _ g => bodyE (fs.map FunU.params) g) fs := by
    funext j
    unfold badOf
    rw [hat, hs]
    by_cases e : k = j
    · subst e
      rw [if_pos rfl, h]
      exact bodyE_sw hp hq hph _
    · rw [if_neg e]
  have b3 : mainF (fs.set k (swF p q f)) = mainF fs := by
    unfold mainF
    rw [List.length_set, hs]
    have e : ∀ i : Nat, ((fs.set k (swF p q f))[i]? = some (swF p q f) ∧ fs[i]? = some f) ∨ (fs.set k (swF p q f))[i]? = fs[i]? := fun i => by
      rw [hat]
      by_cases e : k = i
      · subst e
        exact .inl ⟨if_pos rfl, h⟩
      · exact .inr (if_neg e)
    congr 1
    congr 1
    funext i
    rcases e i with ⟨e1, e2⟩ | e1
    · rw [e1, e2]; rfl
    · rw [e1]
  unfold unitF
  rw [List.length_set, b1, b2, b3]
theorem clashF_sw {gs : List Glob} {fs : List FunU} {k : Nat} {f : FunU} {p q : Int} (h : fs[k]? = some f) (hp : 0 ≤ p ∧ p < f.regs) (hq : 0 ≤ q ∧ q < f.regs) (hph : ∀ b ∈ f.blocks, b.phis = []) (hc : clashF gs fs (k : Int) = (0, 0)) : clashF gs (fs.set k (swF p q f)) (k : Int) = (0, 0) := by
  have hu := unitF_sw (gs := gs) h hp hq hph
  have hkl := (List.getElem?_eq_some_iff.1 h).1
  unfold clashF at hc ⊢
  rw [hu, List.length_set]
  split at hc
  · rename_i h1
    rw [hc] at h1
    exact absurd rfl h1
  · rename_i h1
    rw [if_neg h1, if_neg (by omega), if_neg]
    rw [List.getD_eq_getElem?_getD, Int.toNat_natCast, List.getElem?_set, if_pos rfl, if_pos hkl, Option.getD_some]
    show ¬ ((f.blocks.map (swB p q)).any fun b => decide (0 < b.phis.length)) = true
    rw [List.any_map, Bool.not_eq_true, List.any_eq_false]
    intro b _
    exact fun h => absurd h (by show ¬ decide (0 < ([] : List PhiU).length) = true; simp)
end Go.Proofs.YtiknhfbkphoceaaGreatDoor
