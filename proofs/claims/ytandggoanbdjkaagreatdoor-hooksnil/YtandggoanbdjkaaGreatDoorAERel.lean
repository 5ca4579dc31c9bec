/- The abstract evaluator: the relation of heaps and worlds, and how steps keep it. Conditions: none. -/
import Derived.Test.YtandggoanbdjkaaGreatDoorAEBase
namespace AE
open Go

theorem VRels.length {ρ : Ren} : ∀ (xs : List AV) (vs : List Value), VRels ρ xs vs → xs.length = vs.length
  | [], [], _ => rfl
  | [], _ :: _, h => by simp [VRels] at h
  | _ :: _, [], h => by simp [VRels] at h
  | _ :: xs, _ :: vs, h => by simp only [VRels] at h; simp [VRels.length xs vs h.2]

theorem VRels.get {ρ : Ren} : ∀ (xs : List AV) (vs : List Value) (j : Nat) (x : AV), VRels ρ xs vs → xs[j]? = some x → ∃ v, vs[j]? = some v ∧ VRel ρ x v
  | [], _, j, x, _, hx => by simp at hx
  | _ :: _, [], _, _, h, _ => by simp [VRels] at h
  | x :: xs, v :: vs, 0, y, h, hx => by
    simp only [VRels] at h
    simp only [List.getElem?_cons_zero, Option.some.injEq] at hx
    subst hx
    exact ⟨v, by simp, h.1⟩
  | x :: xs, v :: vs, j + 1, y, h, hx => by
    simp only [VRels] at h
    simp only [List.getElem?_cons_succ] at hx
    obtain ⟨u, hu, hr⟩ := VRels.get xs vs j y h.2 hx
    exact ⟨u, by simpa using hu, hr⟩

/-- from place by place -/
theorem VRels.of_get {ρ : Ren} : ∀ (xs : List AV) (vs : List Value), xs.length = vs.length → (∀ (j : Nat) (x : AV), xs[j]? = some x → ∃ v, vs[j]? = some v ∧ VRel ρ x v) → VRels ρ xs vs
  | [], [], _, _ => trivial
  | [], _ :: _, h, _ => by simp at h
  | _ :: _, [], h, _ => by simp at h
  | x :: xs, v :: vs, h, hr => by
    simp only [VRels]
    refine ⟨?_, VRels.of_get xs vs (by simpa using h) fun j y hy => ?_⟩
    · obtain ⟨u, hu, hx⟩ := hr 0 x (by simp)
      simp only [List.getElem?_cons_zero, Option.some.injEq] at hu
      subst hu; exact hx
    · obtain ⟨u, hu, hx⟩ := hr (j + 1) y (by simpa using hy)
      exact ⟨u, by simpa using hu, hx⟩

theorem VRels.append {ρ : Ren} : ∀ (xs : List AV) (vs : List Value) (ys : List AV) (us : List Value), VRels ρ xs vs → VRels ρ ys us → VRels ρ (xs ++ ys) (vs ++ us)
  | [], [], _, _, _, h => by simpa using h
  | [], _ :: _, _, _, h, _ => by simp [VRels] at h
  | _ :: _, [], _, _, h, _ => by simp [VRels] at h
  | x :: xs, v :: vs, ys, us, h, h' => by
    simp only [VRels, List.cons_append] at *
    exact ⟨h.1, VRels.append xs vs ys us h.2 h'⟩

theorem VRels.drop {ρ : Ren} : ∀ (n : Nat) (xs : List AV) (vs : List Value), VRels ρ xs vs → VRels ρ (xs.drop n) (vs.drop n)
  | 0, _, _, h => by simpa using h
  | n + 1, [], [], _ => by simp [VRels]
  | n + 1, [], _ :: _, h => by simp [VRels] at h
  | n + 1, _ :: _, [], h => by simp [VRels] at h
  | n + 1, x :: xs, v :: vs, h => by simp only [VRels, List.drop_succ_cons] at *; exact VRels.drop n xs vs h.2

theorem VRels.take {ρ : Ren} : ∀ (n : Nat) (xs : List AV) (vs : List Value), VRels ρ xs vs → VRels ρ (xs.take n) (vs.take n)
  | 0, _, _, _ => by simp [VRels]
  | n + 1, [], [], _ => by simp [VRels]
  | n + 1, [], _ :: _, h => by simp [VRels] at h
  | n + 1, _ :: _, [], h => by simp [VRels] at h
  | n + 1, x :: xs, v :: vs, h => by simp only [VRels, List.take_succ_cons] at *; exact ⟨h.1, VRels.take n xs vs h.2⟩

/-! ### objects -/

def basicKey : AV → Bool
  | .int _ _ | .str _ | .bool _ => true
  | _ => false

def ERel (ρ : Ren) : List (AV × AV) → List MapEntry → Prop
  | [], [] => True
  | (k, v) :: es, e :: es' => basicKey k = true ∧ VRel ρ k e.key ∧ VRel ρ v e.val ∧ ERel ρ es es'
  | _, _ => False

/-- what is frozen of a block lies beyond its cells -/
def Thaw (n : Nat) (fr : Nat × Nat) : Prop := fr.1 = fr.2 ∨ n ≤ fr.1

theorem Thaw.free {n : Nat} {fr : Nat × Nat} (h : Thaw n fr) : ∀ k, k < n → ¬ (fr.1 ≤ k ∧ k < fr.2) := by
  intro k hk h2
  rcases h with h | h <;> omega

theorem Thaw.of_eq {n n' : Nat} {fr : Nat × Nat} (h : Thaw n fr) (e : n' = n) : Thaw n' fr := e ▸ h

/-- What an object of the abstract heap says of the block that it lies in. -/
def ORel (P : Program) (ρ : Ren) (e : Ent) : AObj → Option Obj → Prop
  | .cells b, some (.cells cs T fr) => T = b.t ∧ cs.size = e.room ∧ b.n ≤ cs.size ∧ Thaw cs.size fr ∧
      (b.g = true → sizeOf P b.t = some e.sz) ∧ ∀ k, k < b.n → ∃ x v, b.get k = some x ∧ cs[k]? = some v ∧ VRel ρ x v
  | .map es, some (.map es' _) => ERel ρ es es'.toList
  | _, _ => False

def AObj.live : AObj → Prop
  | .gone => False
  | _ => True

/-- Blocks that are told to lie as they lie, and that the abstract heap says nothing of. -/
class Base where
  kept : Nat → Option Obj

/-- The abstract heap tells of the world. -/
structure Rel [Base] (P : Program) (ρ : Ren) (H : Heap) (w : World) : Prop where
  obj : ∀ i o, H.get i = some o → o.live → ∃ e, ρ i = some e ∧ ORel P ρ e o w.heap[e.blk]?
  inj : ∀ i j o o' e e', H.get i = some o → o.live → H.get j = some o' → o'.live → ρ i = some e → ρ j = some e' → e.blk = e'.blk → i = j
  rng : ∀ i e, ρ i = some e → e.blk < w.heap.size
  nxt : ∀ i e, ρ i = some e → i < H.next
  kept : ∀ b o, Base.kept b = some o → w.heap[b]? = some o ∧ ∀ i e, ρ i = some e → e.blk ≠ b

theorem ERel.mono {ρ ρ' : Ren} (h : ρ.le ρ') : ∀ (es : List (AV × AV)) (es' : List MapEntry), ERel ρ es es' → ERel ρ' es es'
  | [], [], _ => trivial
  | [], _ :: _, hr => by simp [ERel] at hr
  | _ :: _, [], hr => by simp [ERel] at hr
  | (k, v) :: es, e :: es', hr => by
    simp only [ERel] at *
    exact ⟨hr.1, VRel.mono h _ _ hr.2.1, VRel.mono h _ _ hr.2.2.1, ERel.mono h es es' hr.2.2.2⟩

theorem ORel.mono {P : Program} {ρ ρ' : Ren} (h : ρ.le ρ') (e : Ent) (o : AObj) (x : Option Obj) (hr : ORel P ρ e o x) : ORel P ρ' e o x := by
  cases o with
  | cells b =>
    cases x with
    | none => simp [ORel] at hr
    | some x =>
      cases x with
      | cells cs T fr =>
        simp only [ORel] at *
        refine ⟨hr.1, hr.2.1, hr.2.2.1, hr.2.2.2.1, hr.2.2.2.2.1, fun k hk => ?_⟩
        obtain ⟨y, v, h1, h2, h3⟩ := hr.2.2.2.2.2 k hk
        exact ⟨y, v, h1, h2, VRel.mono h _ _ h3⟩
      | _ => simp [ORel] at hr
  | map es =>
    cases x with
    | none => simp [ORel] at hr
    | some x =>
      cases x with
      | map es' c => simp only [ORel] at *; exact ERel.mono h _ _ hr
      | _ => simp [ORel] at hr
  | gone => simp [ORel] at hr

/-- What a step of the abstract evaluator says of the worlds. 'at_': the number that a new object may have below 'next'. -/
structure Step (at_ : Option Nat) (ρ : Ren) (H : Heap) (w : World) (ρ' : Ren) (H' : Heap) (w' : World) : Prop where
  ext : ρ.le ρ'
  new : ∀ i e, ρ i = none → ρ' i = some e → H.next ≤ i ∨ at_ = some i
  nle : H.next ≤ H'.next
  size : w.heap.size ≤ w'.heap.size
  frame : ∀ b, b < w.heap.size → (∀ i o e, H.get i = some o → o.live → ρ i = some e → e.blk ≠ b) → w'.heap[b]? = w.heap[b]?
  live : ∀ i o e, H'.get i = some o → o.live → ρ' i = some e → e.blk < w.heap.size → ∃ j o' e', H.get j = some o' ∧ o'.live ∧ ρ j = some e' ∧ e'.blk = e.blk
  os : w'.os = w.os
  tape : w'.tape = w.tape
  output : w'.output = w.output
  old : ∀ i, i < H.next → (∀ o, H.get i = some o → ¬ o.live) → at_ ≠ some i → ∀ o, H'.get i = some o → ¬ o.live

theorem Ren.le_refl (ρ : Ren) : ρ.le ρ := fun _ _ h => h
theorem Ren.le_trans {a b c : Ren} (h : a.le b) (k : b.le c) : a.le c := fun i e hi => k i e (h i e hi)

theorem Step.refl (at_ : Option Nat) (ρ : Ren) (H : Heap) (w : World) : Step at_ ρ H w ρ H w :=
  ⟨Ren.le_refl ρ, fun i e h h' => (by rw [h] at h'; cases h'), Nat.le_refl _, Nat.le_refl _, fun _ _ _ => rfl, fun i o e h l r _ => ⟨i, o, e, h, l, r, rfl⟩, rfl, rfl, rfl, fun _ _ h _ => h⟩

theorem Step.trans {at_ : Option Nat} {ρ ρ1 ρ2 : Ren} {H H1 H2 : Heap} {w w1 w2 : World} (h : Step at_ ρ H w ρ1 H1 w1) (k : Step at_ ρ1 H1 w1 ρ2 H2 w2) :
    Step at_ ρ H w ρ2 H2 w2 where
  ext := Ren.le_trans h.ext k.ext
  new i e h0 h2 := by
    cases h1 : ρ1 i with
    | none => rcases k.new i e h1 h2 with h3 | h3
              · exact Or.inl (Nat.le_trans h.nle h3)
              · exact Or.inr h3
    | some e1 => exact h.new i e1 h0 h1
  nle := Nat.le_trans h.nle k.nle
  size := Nat.le_trans h.size k.size
  frame b hb hn := by
    rw [k.frame b (Nat.lt_of_lt_of_le hb h.size) ?_, h.frame b hb hn]
    intro i o e hi hl hr he
    obtain ⟨j, o', e', hj, hl', hr', hb'⟩ := h.live i o e hi hl hr (he ▸ hb)
    exact hn j o' e' hj hl' hr' (hb'.trans he)
  live i o e hi hl hr hb := by
    obtain ⟨j, o', e', hj, hl', hr', hb'⟩ := k.live i o e hi hl hr (Nat.lt_of_lt_of_le hb h.size)
    obtain ⟨j2, o2, e2, hj2, hl2, hr2, hb2⟩ := h.live j o' e' hj hl' hr' (hb' ▸ hb)
    exact ⟨j2, o2, e2, hj2, hl2, hr2, hb2.trans hb'⟩
  os := k.os.trans h.os
  tape := k.tape.trans h.tape
  output := k.output.trans h.output
  old i hi hn ha := k.old i (Nat.lt_of_lt_of_le hi h.nle) (h.old i hi hn ha) ha

theorem Step.weaken {at_ : Option Nat} {ρ ρ' : Ren} {H H' : Heap} {w w' : World} (h : Step none ρ H w ρ' H' w') : Step at_ ρ H w ρ' H' w' :=
  { h with new := fun i e h0 h1 => (h.new i e h0 h1).elim Or.inl (fun h => by cases h), old := fun i hi hn _ => h.old i hi hn (by simp) }

/-! ### worlds -/

/-- block b becomes o -/
def setBlk (w : World) (b : Nat) (o : Obj) : World := { w with heap := w.heap.setIfInBounds b o }

theorem setBlk_heap (w : World) (b : Nat) (o : Obj) (j : Nat) : (setBlk w b o).heap[j]? = if j = b ∧ b < w.heap.size then some o else w.heap[j]? := by
  simp only [setBlk, Array.getElem?_setIfInBounds]
  by_cases h : b = j
  · subst h
    by_cases h2 : b < w.heap.size
    · simp [h2]
    · simp [h2]
  · rw [if_neg h, if_neg (fun c => h c.1.symm)]

theorem setBlk_size (w : World) (b : Nat) (o : Obj) : (setBlk w b o).heap.size = w.heap.size := by simp [setBlk]

theorem setBlk_self (w : World) (b : Nat) (o : Obj) (h : w.heap[b]? = some o) : setBlk w b o = w := by
  cases w with
  | mk heap tape drawn os output =>
    simp only [setBlk] at *
    congr 1
    apply Array.ext_getElem?
    intro i
    rw [Array.getElem?_setIfInBounds]
    split
    · rename_i e; subst e
      split
      · exact h.symm
      · rename_i hn; rw [Array.getElem?_eq_none (Nat.le_of_not_lt hn)] at h; cases h
    · rfl

theorem setCell_setBlk (w : World) (b off : Nat) (v : Value) (cs : Array Value) (T : TypeId) (fr : Nat × Nat) (h : w.heap[b]? = some (.cells cs T fr)) :
    w.setCell ⟨b, off, none⟩ v = setBlk w b (.cells (cs.setIfInBounds off v) T fr) := by
  cases w with
  | mk heap tape drawn os output =>
    simp only [World.setCell, setBlk] at *
    congr 1
    obtain ⟨hb, hv⟩ := Array.getElem?_eq_some_iff.1 h
    apply Array.ext_getElem?
    intro i
    rw [Array.getElem?_setIfInBounds, Array.getElem?_modify]
    by_cases e : b = i
    · subst e; rw [if_pos rfl, if_pos rfl, if_pos hb, h]; rfl
    · rw [if_neg e, if_neg e]

theorem setBlk_setBlk (w : World) (b : Nat) (o o' : Obj) : setBlk (setBlk w b o) b o' = setBlk w b o' := by
  simp only [setBlk]
  congr 1
  apply Array.ext_getElem?
  intro i
  simp only [Array.getElem?_setIfInBounds, Array.size_setIfInBounds]
  split <;> rfl

theorem cell_of_blk {w : World} {b : Nat} {cs : Array Value} {T : TypeId} {fr : Nat × Nat} (h : w.heap[b]? = some (.cells cs T fr)) (off : Nat) :
    w.cell? ⟨b, off, none⟩ = cs[off]? := by
  simp [World.cell?, h]

theorem frozen_of_blk {w : World} {b : Nat} {cs : Array Value} {T : TypeId} {fr : Nat × Nat} (h : w.heap[b]? = some (.cells cs T fr)) (off : Nat) :
    w.frozen? ⟨b, off, none⟩ = (decide (fr.1 ≤ off) && decide (off < fr.2)) := by
  cases fr
  simp [World.frozen?, h]

theorem flat_oneCell {ρ : Ren} {x : AV} {v : Value} (h : VRel ρ x v) (hf : x.flat = true) : v.oneCell' = true := by
  cases x <;> cases v <;> simp_all [VRel, AV.flat, Value.oneCell']

/-- The run of a store of several cells. -/
theorem run_storeCells' {P : Program} : ∀ (vs : List Value) (b off i : Nat) (w : World) (cs : Array Value) (T : TypeId) (fr : Nat × Nat), w.heap[b]? = some (.cells cs T fr) →
    (vs = [] ∨ off + i + vs.length ≤ cs.size) → (∀ k, k < cs.size → ¬ (fr.1 ≤ k ∧ k < fr.2)) → (∀ v ∈ vs, v.oneCell' = true) →
    ∃ cs' : Array Value, (Go.storeCells ⟨b, off, none⟩ vs i).run P w = .ok () (setBlk w b (.cells cs' T fr)) ∧ cs'.size = cs.size ∧
      ∀ j, cs'[j]? = if off + i ≤ j ∧ j < off + i + vs.length then vs[j - (off + i)]? else cs[j]? := by
  intro vs
  induction vs with
  | nil =>
    intro b off i w cs T fr h _ _ _
    refine ⟨cs, ?_, rfl, fun j => ?_⟩
    · simp only [Go.storeCells, Sem.run_pure]; rw [setBlk_self w b _ h]
    · rw [if_neg (by simp only [List.length_nil]; omega)]
  | cons v vs ih =>
    intro b off i w cs T fr h hl hfr hone
    have hl : off + i + (vs.length + 1) ≤ cs.size := by
      rcases hl with hl | hl
      · cases hl
      · simpa using hl
    have hadd : (⟨b, off, none⟩ : Addr).add i = ⟨b, off + i, none⟩ := by
      unfold Addr.add; split
      · rename_i hi; subst hi; rfl
      · rfl
    have hc : w.cell? ⟨b, off + i, none⟩ = some (cs[off + i]'(by omega)) := by rw [cell_of_blk h]; simp
    have hz : w.frozen? ⟨b, off + i, none⟩ = false := by
      rw [frozen_of_blk h]
      have := hfr (off + i) (by omega)
      simp only [Bool.and_eq_false_imp, decide_eq_true_eq, decide_eq_false_iff_not]
      intro h1 h2; exact this ⟨h1, h2⟩
    have hw1 : (setBlk w b (.cells (cs.setIfInBounds (off + i) v) T fr)).heap[b]? = some (.cells (cs.setIfInBounds (off + i) v) T fr) := by
      rw [setBlk_heap]
      obtain ⟨hb, _⟩ := Array.getElem?_eq_some_iff.1 h
      rw [if_pos ⟨rfl, hb⟩]
    obtain ⟨cs', hrun, hsz, hget⟩ := ih b off (i + 1) _ (cs.setIfInBounds (off + i) v) T fr hw1 (by
      rcases vs with _ | ⟨u, us⟩
      · exact Or.inl rfl
      · exact Or.inr (by simp only [Array.size_setIfInBounds]; simp at hl ⊢; omega)) (by simpa using hfr) (fun u hu => hone u (List.mem_cons_of_mem _ hu))
    refine ⟨cs', ?_, by simpa using hsz, fun j => ?_⟩
    · simp only [Go.storeCells, Sem.run_bind, hadd]
      rw [run_store P w _ v _ (hone v (List.mem_cons_self ..))]
      simp only [hc, hz]
      rw [setCell_setBlk w b (off + i) v cs T fr h]
      simpa [setBlk_setBlk] using hrun
    · rw [hget]
      simp only [List.length_cons, Array.getElem?_setIfInBounds]
      by_cases c1 : off + (i + 1) ≤ j ∧ j < off + (i + 1) + vs.length
      · rw [if_pos c1, if_pos (by omega)]
        have : j - (off + i) = (j - (off + (i + 1))) + 1 := by omega
        rw [this, List.getElem?_cons_succ]
      · rw [if_neg c1]
        by_cases c2 : off + i = j
        · subst c2; rw [if_pos rfl, if_pos (by omega), if_pos (by omega)]; simp
        · rw [if_neg c2, if_neg (by omega)]
end AE
