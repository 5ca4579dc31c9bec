/- The abstract evaluator: the relation of heaps and worlds, and how steps keep it. Conditions: none. -/
import Derived.Test.YtandggoanbdjkaaGreatDoorWAEBase
namespace AE
open Go

theorem VRels.length {ρ : Ren} : ∀ (xs : List AV) (vs : List Value), VRels ρ xs vs → xs.length = vs.length
  | [], [], _ => rfl
  | [], _ :: _, h => by simp [VRels] at h
  | _ :: _, [], h => by simp [VRels] at h
  | _ :: xs, _ :: vs, h => by simp only [VRels] at h; simp [VRels.length xs vs h.2]

theorem VRels.get {ρ : Ren} : ∀ (xs : List AV) (vs : List Value) (j : Nat) (x : AV), VRels ρ xs vs → xs[j]? = some x → ∃ v, vs[j]? = some v ∧ VRel ρ x v
  | [], _, j, x, _, hx => by simp at hx
  | _ :: _, [], _, _, h, _ => by simp [VRels] at h
  | x :: xs, v :: vs, 0, y, h, hx => by
    simp only [VRels] at h
    simp only [List.getElem?_cons_zero, Option.some.injEq] at hx
    subst hx
    exact ⟨v, by simp, h.1⟩
  | x :: xs, v :: vs, j + 1, y, h, hx => by
    simp only [VRels] at h
    simp only [List.getElem?_cons_succ] at hx
    obtain ⟨u, hu, hr⟩ := VRels.get xs vs j y h.2 hx
    exact ⟨u, by simpa using hu, hr⟩

/-- from place by place -/
theorem VRels.of_get {ρ : Ren} : ∀ (xs : List AV) (vs : List Value), xs.length = vs.length → (∀ (j : Nat) (x : AV), xs[j]? = some x → ∃ v, vs[j]? = some v ∧ VRel ρ x v) → VRels ρ xs vs
  | [], [], _, _ => trivial
  | [], _ :: _, h, _ => by simp at h
  | _ :: _, [], h, _ => by simp at h
  | x :: xs, v :: vs, h, hr => by
    simp only [VRels]
    refine ⟨?_, VRels.of_get xs vs (by simpa using h) fun j y hy => ?_⟩
    · obtain ⟨u, hu, hx⟩ := hr 0 x (by simp)
      simp only [List.getElem?_cons_zero, Option.some.injEq] at hu
      subst hu; exact hx
    · obtain ⟨u, hu, hx⟩ := hr (j + 1) y (by simpa using hy)
      exact ⟨u, by simpa using hu, hx⟩

theorem VRels.append {ρ : Ren} : ∀ (xs : List AV) (vs : List Value) (ys : List AV) (us : List Value), VRels ρ xs vs → VRels ρ ys us → VRels ρ (xs ++ ys) (vs ++ us)
  | [], [], _, _, _, h => by simpa using h
  | [], _ :: _, _, _, h, _ => by simp [VRels] at h
  | _ :: _, [], _, _, h, _ => by simp [VRels] at h
  | x :: xs, v :: vs, ys, us, h, h' => by
    simp only [VRels, List.cons_append] at *
    exact ⟨h.1, VRels.append xs vs ys us h.2 h'⟩

theorem VRels.drop {ρ : Ren} : ∀ (n : Nat) (xs : List AV) (vs : List Value), VRels ρ xs vs → VRels ρ (xs.drop n) (vs.drop n)
  | 0, _, _, h => by simpa using h
  | n + 1, [], [], _ => by simp [VRels]
  | n + 1, [], _ :: _, h => by simp [VRels] at h
  | n + 1, _ :: _, [], h => by simp [VRels] at h
  | n + 1, x :: xs, v :: vs, h => by simp only [VRels, List.drop_succ_cons] at *; exact VRels.drop n xs vs h.2

theorem VRels.take {ρ : Ren} : ∀ (n : Nat) (xs : List AV) (vs : List Value), VRels ρ xs vs → VRels ρ (xs.take n) (vs.take n)
  | 0, _, _, _ => by simp [VRels]
  | n + 1, [], [], _ => by simp [VRels]
  | n + 1, [], _ :: _, h => by simp [VRels] at h
  | n + 1, _ :: _, [], h => by simp [VRels] at h
  | n + 1, x :: xs, v :: vs, h => by simp only [VRels, List.take_succ_cons] at *; exact ⟨h.1, VRels.take n xs vs h.2⟩

/-! ### objects -/

def basicKey : AV → Bool
  | .int _ _ | .str _ | .bool _ => true
  | _ => false

def ERel (ρ : Ren) : List (AV × AV) → List MapEntry → Prop
  | [], [] => True
  | (k, v) :: es, e :: es' => basicKey k = true ∧ VRel ρ k e.key ∧ VRel ρ v e.val ∧ ERel ρ es es'
  | _, _ => False

/-- what is frozen of a block lies beyond its cells -/
def Thaw (n : Nat) (fr : Nat × Nat) : Prop := fr.1 = fr.2 ∨ n ≤ fr.1

theorem Thaw.free {n : Nat} {fr : Nat × Nat} (h : Thaw n fr) : ∀ k, k < n → ¬ (fr.1 ≤ k ∧ k < fr.2) := by
  intro k hk h2
  rcases h with h | h <;> omega

theorem Thaw.of_eq {n n' : Nat} {fr : Nat × Nat} (h : Thaw n fr) (e : n' = n) : Thaw n' fr := e ▸ h

/-- What an object of the abstract heap says of the block that it lies in. -/
def ORel (P : Program) (ρ : Ren) (e : Ent) : AObj → Option Obj → Prop
  | .cells b, some (.cells cs T fr) => T = b.t ∧ cs.size = e.room ∧ b.n ≤ cs.size ∧ Thaw cs.size fr ∧
      (b.g = true → sizeOf P b.t = some e.sz) ∧ ∀ k, k < b.n → ∃ x v, b.get k = some x ∧ cs[k]? = some v ∧ VRel ρ x v
  | .map es, some (.map es' _) => ERel ρ es es'.toList
  | _, _ => False

def AObj.live : AObj → Prop
  | .gone => False
  | _ => True

/-- Blocks that are told to lie as they lie, and that the abstract heap says nothing of. -/
class Base where
  kept : Nat → Option Obj

/-- The abstract heap tells of the world. -/
structure Rel [Base] (P : Program) (ρ : Ren) (H : Heap) (w : World) : Prop where
  obj : ∀ i o, H.get i = some o → o.live → ∃ e, ρ i = some e ∧ ORel P ρ e o w.heap[e.blk]?
  inj : ∀ i j o o' e e', H.get i = some o → o.live → H.get j = some o' → o'.live → ρ i = some e → ρ j = some e' → e.blk = e'.blk → i = j
  rng : ∀ i e, ρ i = some e → e.blk < w.heap.size
  nxt : ∀ i e, ρ i = some e → i < H.next
  kept : ∀ b o, Base.kept b = some o → w.heap[b]? = some o ∧ ∀ i q e, H.get i = some q → q.live → ρ i = some e → e.blk ≠ b

theorem ERel.mono {ρ ρ' : Ren} (h : ρ.le ρ') : ∀ (es : List (AV × AV)) (es' : List MapEntry), ERel ρ es es' → ERel ρ' es es'
  | [], [], _ => trivial
  | [], _ :: _, hr => by simp [ERel] at hr
  | _ :: _, [], hr => by simp [ERel] at hr
  | (k, v) :: es, e :: es', hr => by
    simp only [ERel] at *
    exact ⟨hr.1, VRel.mono h _ _ hr.2.1, VRel.mono h _ _ hr.2.2.1, ERel.mono h es es' hr.2.2.2⟩

theorem ORel.mono {P : Program} {ρ ρ' : Ren} (h : ρ.le ρ') (e : Ent) (o : AObj) (x : Option Obj) (hr : ORel P ρ e o x) : ORel P ρ' e o x := by
  cases o with
  | cells b =>
    cases x with
    | none => simp [ORel] at hr
    | some x =>
      cases x with
      | cells cs T fr =>
        simp only [ORel] at *
        refine ⟨hr.1, hr.2.1, hr.2.2.1, hr.2.2.2.1, hr.2.2.2.2.1, fun k hk => ?_⟩
        obtain ⟨y, v, h1, h2, h3⟩ := hr.2.2.2.2.2 k hk
        exact ⟨y, v, h1, h2, VRel.mono h _ _ h3⟩
      | _ => simp [ORel] at hr
  | map es =>
    cases x with
    | none => simp [ORel] at hr
    | some x =>
      cases x with
      | map es' c => simp only [ORel] at *; exact ERel.mono h _ _ hr
      | _ => simp [ORel] at hr
  | gone => simp [ORel] at hr

/-- What a step of the abstract evaluator says of the worlds. 'at_': the number that a new object may have below 'next'. -/
structure Step (at_ : Option Nat) (ρ : Ren) (H : Heap) (w : World) (ρ' : Ren) (H' : Heap) (w' : World) : Prop where
  ext : ρ.le ρ'
  new : ∀ i e, ρ i = none → ρ' i = some e → H.next ≤ i ∨ at_ = some i
  nle : H.next ≤ H'.next
  size : w.heap.size ≤ w'.heap.size
  frame : ∀ b, b < w.heap.size → (∀ i o e, H.get i = some o → o.live → ρ i = some e → e.blk ≠ b) → w'.heap[b]? = w.heap[b]?
  live : ∀ i o e, H'.get i = some o → o.live → ρ' i = some e → e.blk < w.heap.size → ∃ j o' e', H.get j = some o' ∧ o'.live ∧ ρ j = some e' ∧ e'.blk = e.blk
  os : w'.os = w.os
  tape : w'.tape = w.tape
  output : w'.output = w.output
  old : ∀ i, i < H.next → (∀ o, H.get i = some o → ¬ o.live) → at_ ≠ some i → ∀ o, H'.get i = some o → ¬ o.live

theorem Ren.le_refl (ρ : Ren) : ρ.le ρ := fun _ _ h => h
theorem Ren.le_trans {a b c : Ren} (h : a.le b) (k : b.le c) : a.le c := fun i e hi => k i e (h i e hi)

theorem Step.refl (at_ : Option Nat) (ρ : Ren) (H : Heap) (w : World) : Step at_ ρ H w ρ H w :=
  ⟨Ren.le_refl ρ, fun i e h h' => (by rw [h] at h'; cases h'), Nat.le_refl _, Nat.le_refl _, fun _ _ _ => rfl, fun i o e h l r _ => ⟨i, o, e, h, l, r, rfl⟩, rfl, rfl, rfl, fun _ _ h _ => h⟩

theorem Step.trans {at_ : Option Nat} {ρ ρ1 ρ2 : Ren} {H H1 H2 : Heap} {w w1 w2 : World} (h : Step at_ ρ H w ρ1 H1 w1) (k : Step at_ ρ1 H1 w1 ρ2 H2 w2) :
    Step at_ ρ H w ρ2 H2 w2 where
  ext := Ren.le_trans h.ext k.ext
  new i e h0 h2 := by
    cases h1 : ρ1 i with
    | none => rcases k.new i e h1 h2 with h3 | h3
              · exact Or.inl (Nat.le_trans h.nle h3)
              · exact Or.inr h3
    | some e1 => exact h.new i e1 h0 h1
  nle := Nat.le_trans h.nle k.nle
  size := Nat.le_trans h.size k.size
  frame b hb hn := by
    rw [k.frame b (Nat.lt_of_lt_of_le hb h.size) ?_, h.frame b hb hn]
    intro i o e hi hl hr he
    obtain ⟨j, o', e', hj, hl', hr', hb'⟩ := h.live i o e hi hl hr (he ▸ hb)
    exact hn j o' e' hj hl' hr' (hb'.trans he)
  live i o e hi hl hr hb := by
    obtain ⟨j, o', e', hj, hl', hr', hb'⟩ := k.live i o e hi hl hr (Nat.lt_of_lt_of_le hb h.size)
    obtain ⟨j2, o2, e2, hj2, hl2, hr2, hb2⟩ := h.live j o' e' hj hl' hr' (hb' ▸ hb)
    exact ⟨j2, o2, e2, hj2, hl2, hr2, hb2.trans hb'⟩
  os := k.os.trans h.os
  tape := k.tape.trans h.tape
  output := k.output.trans h.output
  old i hi hn ha := k.old i (Nat.lt_of_lt_of_le hi h.nle) (h.old i hi hn ha) ha

theorem Step.weaken {at_ : Option Nat} {ρ ρ' : Ren} {H H' : Heap} {w w' : World} (h : Step none ρ H w ρ' H' w') : Step at_ ρ H w ρ' H' w' :=
  { h with new := fun i e h0 h1 => (h.new i e h0 h1).elim Or.inl (fun h => by cases h), old := fun i hi hn _ => h.old i hi hn (by simp) }

/-! ### worlds -/

/-- block b becomes o -/
def setBlk (w : World) (b : Nat) (o : Obj) : World := { w with heap := w.heap.setIfInBounds b o }

theorem setBlk_heap (w : World) (b : Nat) (o : Obj) (j : Nat) : (setBlk w b o).heap[j]? = if j = b ∧ b < w.heap.size then some o else w.heap[j]? := by
  simp only [setBlk, Array.getElem?_setIfInBounds]
  by_cases h : b = j
  · subst h
    by_cases h2 : b < w.heap.size
    · simp [h2]
    · simp [h2]
  · rw [if_neg h, if_neg (fun c => h c.1.symm)]

theorem setBlk_size (w : World) (b : Nat) (o : Obj) : (setBlk w b o).heap.size = w.heap.size := by simp [setBlk]

theorem setBlk_self (w : World) (b : Nat) (o : Obj) (h : w.heap[b]? = some o) : setBlk w b o = w := by
  cases w with
  | mk heap tape drawn os output =>
    simp only [setBlk] at *
    congr 1
    apply Array.ext_getElem?
    intro i
    rw [Array.getElem?_setIfInBounds]
    split
    · rename_i e; subst e
      split
      · exact h.symm
      · rename_i hn; rw [Array.getElem?_eq_none (Nat.le_of_not_lt hn)] at h; cases h
    · rfl

theorem setCell_setBlk (w : World) (b off : Nat) (v : Value) (cs : Array Value) (T : TypeId) (fr : Nat × Nat) (h : w.heap[b]? = some (.cells cs T fr)) :
    w.setCell ⟨b, off, none⟩ v = setBlk w b (.cells (cs.setIfInBounds off v) T fr) := by
  cases w with
  | mk heap tape drawn os output =>
    simp only [World.setCell, setBlk] at *
    congr 1
    obtain ⟨hb, hv⟩ := Array.getElem?_eq_some_iff.1 h
    apply Array.ext_getElem?
    intro i
    rw [Array.getElem?_setIfInBounds, Array.getElem?_modify]
    by_cases e : b = i
    · subst e; rw [if_pos rfl, if_pos rfl, if_pos hb, h]; rfl
    · rw [if_neg e, if_neg e]

theorem setBlk_setBlk (w : World) (b : Nat) (o o' : Obj) : setBlk (setBlk w b o) b o' = setBlk w b o' := by
  simp only [setBlk]
  congr 1
  apply Array.ext_getElem?
  intro i
  simp only [Array.getElem?_setIfInBounds, Array.size_setIfInBounds]
  split <;> rfl

theorem cell_of_blk {w : World} {b : Nat} {cs : Array Value} {T : TypeId} {fr : Nat × Nat} (h : w.heap[b]? = some (.cells cs T fr)) (off : Nat) :
    w.cell? ⟨b, off, none⟩ = cs[off]? := by
  simp [World.cell?, h]

theorem frozen_of_blk {w : World} {b : Nat} {cs : Array Value} {T : TypeId} {fr : Nat × Nat} (h : w.heap[b]? = some (.cells cs T fr)) (off : Nat) :
    w.frozen? ⟨b, off, none⟩ = (decide (fr.1 ≤ off) && decide (off < fr.2)) := by
  cases fr
  simp [World.frozen?, h]

theorem flat_oneCell {ρ : Ren} {x : AV} {v : Value} (h : VRel ρ x v) (hf : x.flat = true) : v.oneCell' = true := by
  cases x <;> cases v <;> simp_all [VRel, AV.flat, Value.oneCell']

/-- The run of a store of several cells. -/
theorem run_storeCells' {P : Program} : ∀ (vs : List Value) (b off i : Nat) (w : World) (cs : Array Value) (T : TypeId) (fr : Nat × Nat), w.heap[b]? = some (.cells cs T fr) →
    (vs = [] ∨ off + i + vs.length ≤ cs.size) → (∀ k, k < cs.size → ¬ (fr.1 ≤ k ∧ k < fr.2)) → (∀ v ∈ vs, v.oneCell' = true) →
    ∃ cs' : Array Value, (Go.storeCells ⟨b, off, none⟩ vs i).run P w = .ok () (setBlk w b (.cells cs' T fr)) ∧ cs'.size = cs.size ∧
      ∀ j, cs'[j]? = if off + i ≤ j ∧ j < off + i + vs.length then vs[j - (off + i)]? else cs[j]? := by
  intro vs
  induction vs with
  | nil =>
    intro b off i w cs T fr h _ _ _
    refine ⟨cs, ?_, rfl, fun j => ?_⟩
    · simp only [Go.storeCells, Sem.run_pure]; rw [setBlk_self w b _ h]
    · rw [if_neg (by simp only [List.length_nil]; omega)]
  | cons v vs ih =>
    intro b off i w cs T fr h hl hfr hone
    have hl : off + i + (vs.length + 1) ≤ cs.size := by
      rcases hl with hl | hl
      · cases hl
      · simpa using hl
    have hadd : (⟨b, off, none⟩ : Addr).add i = ⟨b, off + i, none⟩ := by
      unfold Addr.add; split
      · rename_i hi; subst hi; rfl
      · rfl
    have hc : w.cell? ⟨b, off + i, none⟩ = some (cs[off + i]'(by omega)) := by rw [cell_of_blk h]; simp
    have hz : w.frozen? ⟨b, off + i, none⟩ = false := by
      rw [frozen_of_blk h]
      have := hfr (off + i) (by omega)
      simp only [Bool.and_eq_false_imp, decide_eq_true_eq, decide_eq_false_iff_not]
      intro h1 h2; exact this ⟨h1, h2⟩
    have hw1 : (setBlk w b (.cells (cs.setIfInBounds (off + i) v) T fr)).heap[b]? = some (.cells (cs.setIfInBounds (off + i) v) T fr) := by
      rw [setBlk_heap]
      obtain ⟨hb, _⟩ := Array.getElem?_eq_some_iff.1 h
      rw [if_pos ⟨rfl, hb⟩]
    obtain ⟨cs', hrun, hsz, hget⟩ := ih b off (i + 1) _ (cs.setIfInBounds (off + i) v) T fr hw1 (by
      rcases vs with _ | ⟨u, us⟩
      · exact Or.inl rfl
      · exact Or.inr (by simp only [Array.size_setIfInBounds]; simp at hl ⊢; omega)) (by simpa using hfr) (fun u hu => hone u (List.mem_cons_of_mem _ hu))
    refine ⟨cs', ?_, by simpa using hsz, fun j => ?_⟩
    · simp only [Go.storeCells, Sem.run_bind, hadd]
      rw [run_store P w _ v _ (hone v (List.mem_cons_self ..))]
      simp only [hc, hz]
      rw [setCell_setBlk w b (off + i) v cs T fr h]
      simpa [setBlk_setBlk] using hrun
    · rw [hget]
      simp only [List.length_cons, Array.getElem?_setIfInBounds]
      by_cases c1 : off + (i + 1) ≤ j ∧ j < off + (i + 1) + vs.length
      · rw [if_pos c1, if_pos (by omega)]
        have : j - (off + i) = (j - (off + (i + 1))) + 1 := by omega
        rw [this, List.getElem?_cons_succ]
      · rw [if_neg c1]
        by_cases c2 : off + i = j
        · subst c2; rw [if_pos rfl, if_pos (by omega), if_pos (by omega)]; simp
        · rw [if_neg c2, if_neg (by omega)]
end AE
/- The abstract evaluator: loads, stores and new objects keep the relation. Conditions: none. -/
namespace AE
open Go

def Ren.upd (ρ : Ren) (i : Nat) (e : Ent) : Ren := fun j => if j = i then some e else ρ j

theorem Ren.le_upd {ρ : Ren} {i : Nat} {e : Ent} (h : ρ i = none) : ρ.le (ρ.upd i e) := by
  intro j e' hj
  unfold Ren.upd
  by_cases c : j = i
  · subst c; rw [h] at hj; cases hj
  · rw [if_neg c]; exact hj

theorem Ren.upd_same {ρ : Ren} {i : Nat} {e : Ent} : ρ.upd i e i = some e := by simp [Ren.upd]
theorem Ren.upd_ne {ρ : Ren} {i j : Nat} {e : Ent} (h : j ≠ i) : ρ.upd i e j = ρ j := by simp [Ren.upd, h]

theorem Heap.get_put (H : Heap) (i : Nat) (o : AObj) (j : Nat) : (H.put i o).get j = if j = i then some o else H.get j := Tr.get_put ..

/-- what 'alloc' answers -/
theorem Heap.alloc_spec {H H' : Heap} {at_ : Option Nat} {o : AObj} {id : Nat} (h : H.alloc at_ o = some (id, H')) :
    (∀ j, H'.get j = if j = id then some o else H.get j) ∧ H.next ≤ H'.next ∧ id < H'.next ∧
    ((at_ = none ∧ id = H.next) ∨ (at_ = some id ∧ H.get id = none ∧ id < H.next)) := by
  unfold Heap.alloc at h
  cases at_ with
  | none =>
    simp only [Option.some.injEq, Prod.mk.injEq] at h
    obtain ⟨rfl, rfl⟩ := h
    refine ⟨fun j => ?_, by simp, by simp, Or.inl ⟨rfl, rfl⟩⟩
    simp only [Heap.get, Tr.get_put]
  | some i =>
    simp only at h
    split at h
    · rename_i hg
      split at h
      · rename_i hn
        simp only [Option.some.injEq, Prod.mk.injEq] at h
        obtain ⟨rfl, rfl⟩ := h
        refine ⟨fun j => ?_, by simp, by simpa using hn, Or.inr ⟨rfl, hg, hn⟩⟩
        simp only [Heap.get, Tr.get_put]
      · cases h
    · cases h

section
variable {P : Program} {ρ : Ren} {H : Heap} {w : World}

/-- A live object of the abstract heap: where it lies. -/
theorem Rel.cells [Base] (hr : Rel P ρ H w) {id : Nat} {b : Blk} (h : H.get id = some (.cells b)) :
    ∃ e cs fr, ρ id = some e ∧ w.heap[e.blk]? = some (.cells cs b.t fr) ∧ cs.size = e.room ∧ b.n ≤ cs.size ∧
      Thaw cs.size fr ∧ (b.g = true → sizeOf P b.t = some e.sz) ∧ ∀ k, k < b.n → ∃ x v, b.get k = some x ∧ cs[k]? = some v ∧ VRel ρ x v := by
  obtain ⟨e, he, ho⟩ := hr.obj id _ h trivial
  cases hx : w.heap[e.blk]? with
  | none => rw [hx] at ho; simp [ORel] at ho
  | some x =>
    rw [hx] at ho
    cases x with
    | cells cs T fr => simp only [ORel] at ho; obtain ⟨rfl, h2, h3, h4, h5, h6⟩ := ho; exact ⟨e, cs, fr, he, hx, h2, h3, h4, h5, h6⟩
    | _ => simp [ORel] at ho

theorem Rel.map [Base] (hr : Rel P ρ H w) {id : Nat} {es : List (AV × AV)} (h : H.get id = some (.map es)) :
    ∃ e es' c, ρ id = some e ∧ w.heap[e.blk]? = some (.map es' c) ∧ ERel ρ es es'.toList := by
  obtain ⟨e, he, ho⟩ := hr.obj id _ h trivial
  cases hx : w.heap[e.blk]? with
  | none => rw [hx] at ho; simp [ORel] at ho
  | some x =>
    rw [hx] at ho
    cases x with
    | map es' c => simp only [ORel] at ho; exact ⟨e, es', c, he, hx, ho⟩
    | _ => simp [ORel] at ho

theorem Blk.get_lt {b : Blk} {k : Nat} {x : AV} (h : b.get k = some x) : k < b.n := by
  unfold Blk.get at h
  split at h
  · assumption
  · cases h

theorem add_none (b off i : Nat) : (⟨b, off, none⟩ : Addr).add i = ⟨b, off + i, none⟩ := by
  unfold Addr.add; split
  · rename_i hi; subst hi; rfl
  · rfl

/-- loading several cells -/
theorem loadCells_run [Base] (hr : Rel P ρ H w) {id off n : Nat} {vs : List AV} (h : loadCells H id off n = some vs) :
    ∀ e, ρ id = some e → ∃ us : List Value, (∀ w' : World, w'.heap = w.heap → (Go.loadCells ⟨e.blk, off, none⟩ n).run P w' = .ok us.toArray w') ∧ VRels ρ vs us ∧ us.length = n := by
  intro e he
  unfold loadCells at h
  split at h
  · rename_i b hb
    obtain ⟨e', cs, fr, he', hcs, hsz, hn, _, _, hget⟩ := hr.cells hb
    rw [he] at he'
    simp only [Option.some.injEq] at he'
    subst he'
    obtain ⟨hl, hg⟩ := Blk.load_spec b n off vs h
    refine ⟨(List.range n).map fun j => cs.getD (off + j) undef, ?_, ?_, by simp⟩
    · intro w' hw'
      have := run_loadCells (P := P) w' ⟨e.blk, off, none⟩ n (fun j => cs.getD (off + j) undef) (fun j hj => by
        rw [add_none, cell_of_blk (w := w') (by rw [hw']; exact hcs)]
        have h1 := hg j hj
        have h2 : vs[j]? = some (vs[j]'(by omega)) := by simp
        rw [h2] at h1
        obtain ⟨x, v, _, hv, _⟩ := hget _ (Blk.get_lt h1)
        simp [hv])
      exact this
    · apply VRels.of_get
      · simp [hl]
      · intro j x hx
        have hj : j < n := by
          rcases Nat.lt_or_ge j n with h1 | h1
          · exact h1
          · rw [List.getElem?_eq_none (by omega)] at hx; cases hx
        have h1 := hg j hj
        rw [hx] at h1
        obtain ⟨x', v, hx', hv, hrel⟩ := hget _ (Blk.get_lt h1)
        rw [h1] at hx'
        simp only [Option.some.injEq] at hx'
        subst hx'
        refine ⟨v, ?_, hrel⟩
        simp [hj, hv]
  · cases h

theorem loadCells_live [Base] {id off n : Nat} {vs : List AV} (h : loadCells H id off n = some vs) (hr : Rel P ρ H w) : ∃ e, ρ id = some e := by
  unfold loadCells at h
  split at h
  · rename_i b hb
    obtain ⟨e, cs, fr, he, _⟩ := hr.cells hb
    exact ⟨e, he⟩
  · cases h

/-- an object is changed where it lies -/
theorem Rel.put [Base] (hr : Rel P ρ H w) {id : Nat} {o o' : AObj} {e : Ent} {x : Obj} (h : H.get id = some o) (hl : o.live) (he : ρ id = some e) (ho : ORel P ρ e o' (some x)) :
    Rel P ρ (H.put id o') (setBlk w e.blk x) ∧ Step none ρ H w ρ (H.put id o') (setBlk w e.blk x) := by
  have hlt := hr.rng id e he
  constructor
  · refine ⟨fun i q hi ql => ?_, fun i j q q' f f' hi ql hj ql' hf hf' hb => ?_, fun i f hf => ?_, fun i f hf => ?_, fun b q hk => ⟨?_, fun i x f hi xl hf => ?_⟩⟩
    · rw [Heap.get_put] at hi
      by_cases c : i = id
      · subst c
        simp only [if_true, Option.some.injEq] at hi
        subst hi
        refine ⟨e, he, ?_⟩
        rw [setBlk_heap, if_pos ⟨rfl, hlt⟩]
        exact ho
      · rw [if_neg c] at hi
        obtain ⟨f, hf, hq⟩ := hr.obj i q hi ql
        refine ⟨f, hf, ?_⟩
        rw [setBlk_heap, if_neg ?_]
        · exact hq
        · intro hcon
          exact c (hr.inj i id q o f e hi ql h hl hf he hcon.1)
    · rw [Heap.get_put] at hi hj
      by_cases c : i = id
      · by_cases d : j = id
        · rw [c, d]
        · rw [if_neg d] at hj
          subst c
          exact hr.inj i j o q' f f' h hl hj ql' hf hf' hb
      · rw [if_neg c] at hi
        by_cases d : j = id
        · subst d
          exact hr.inj i j q o f f' hi ql h hl hf hf' hb
        · rw [if_neg d] at hj
          exact hr.inj i j q q' f f' hi ql hj ql' hf hf' hb
    · rw [setBlk_size]; exact hr.rng i f hf
    · exact hr.nxt i f hf
    · rw [setBlk_heap, if_neg (fun hcon => (hr.kept b q hk).2 id o e h hl he hcon.1.symm)]
      exact (hr.kept b q hk).1
    · rw [Heap.get_put] at hi
      by_cases c : i = id
      · subst c
        rw [he] at hf; simp only [Option.some.injEq] at hf; subst hf
        exact (hr.kept b q hk).2 i o e h hl he
      · rw [if_neg c] at hi; exact (hr.kept b q hk).2 i x f hi xl hf
  · refine ⟨Ren.le_refl ρ, fun i f h1 h2 => (by rw [h1] at h2; cases h2), Nat.le_refl _, by rw [setBlk_size]; exact Nat.le_refl _, fun b hb hn => ?_, fun i q f hi ql hf hb => ?_, rfl, rfl, rfl, fun i hi hn ha q hq => ?_⟩
    · rw [setBlk_heap, if_neg ?_]
      intro hcon
      exact hn id o e h hl he hcon.1.symm
    · rw [Heap.get_put] at hi
      by_cases c : i = id
      · subst c
        exact ⟨i, o, f, h, hl, hf, rfl⟩
      · rw [if_neg c] at hi
        exact ⟨i, q, f, hi, ql, hf, rfl⟩
    · rw [Heap.get_put] at hq
      by_cases c : i = id
      · subst c; exact absurd hl (hn o h)
      · rw [if_neg c] at hq; exact hn q hq

/-- an object goes -/
theorem Rel.kill [Base] (hr : Rel P ρ H w) (id : Nat) : Rel P ρ (H.put id .gone) w := by
  refine ⟨fun i q hi ql => ?_, fun i j q q' f f' hi ql hj ql' hf hf' hb => ?_, hr.rng, hr.nxt, fun b q hk => ⟨(hr.kept b q hk).1, fun i x f hi xl hf => ?_⟩⟩
  · rw [Heap.get_put] at hi
    by_cases c : i = id
    · rw [if_pos c] at hi; simp only [Option.some.injEq] at hi; subst hi; exact ql.elim
    · rw [if_neg c] at hi; exact hr.obj i q hi ql
  · rw [Heap.get_put] at hi hj
    by_cases c : i = id
    · rw [if_pos c] at hi; simp only [Option.some.injEq] at hi; subst hi; exact ql.elim
    · by_cases d : j = id
      · rw [if_pos d] at hj; simp only [Option.some.injEq] at hj; subst hj; exact ql'.elim
      · rw [if_neg c] at hi; rw [if_neg d] at hj
        exact hr.inj i j q q' f f' hi ql hj ql' hf hf' hb
  · rw [Heap.get_put] at hi
    by_cases c : i = id
    · rw [if_pos c] at hi; simp only [Option.some.injEq] at hi; subst hi; exact xl.elim
    · rw [if_neg c] at hi; exact (hr.kept b q hk).2 i x f hi xl hf

theorem Step.kill (id : Nat) : Step none ρ H w ρ (H.put id .gone) w := by
  refine ⟨Ren.le_refl ρ, fun i f h1 h2 => (by rw [h1] at h2; cases h2), Nat.le_refl _, Nat.le_refl _, fun _ _ _ => rfl, fun i q f hi ql hf hb => ?_, rfl, rfl, rfl, fun i hi hn ha q hq => ?_⟩
  · rw [Heap.get_put] at hi
    by_cases c : i = id
    · rw [if_pos c] at hi; simp only [Option.some.injEq] at hi; subst hi; exact ql.elim
    · rw [if_neg c] at hi; exact ⟨i, q, f, hi, ql, hf, rfl⟩
  · rw [Heap.get_put] at hq
    by_cases c : i = id
    · rw [if_pos c] at hq; simp only [Option.some.injEq] at hq; subst hq; exact fun h => h
    · rw [if_neg c] at hq; exact hn q hq

/-- the world with a new block -/
def push (w : World) (x : Obj) : World := { w with heap := w.heap.push x }

theorem push_heap (w : World) (x : Obj) (j : Nat) : (push w x).heap[j]? = if j = w.heap.size then some x else w.heap[j]? := by
  simp only [push, Array.getElem?_push]

/-- a new object, in a new block -/
theorem Rel.alloc [Base] (hr : Rel P ρ H w) {at_ : Option Nat} {o : AObj} {id : Nat} {H' : Heap} {x : Obj} {room sz : Nat} (h : H.alloc at_ o = some (id, H'))
    (hat : ∀ i, at_ = some i → ρ i = none) (ho : ORel P ρ ⟨w.heap.size, room, sz⟩ o (some x)) :
    Rel P (ρ.upd id ⟨w.heap.size, room, sz⟩) H' (push w x) ∧ Step at_ ρ H w (ρ.upd id ⟨w.heap.size, room, sz⟩) H' (push w x) ∧ ρ.le (ρ.upd id ⟨w.heap.size, room, sz⟩) := by
  obtain ⟨hget, hnx, hid, hcase⟩ := Heap.alloc_spec h
  have hnone : ρ id = none := by
    rcases hcase with ⟨_, rfl⟩ | ⟨h1, _, _⟩
    · cases hc : ρ H.next with
      | none => rfl
      | some e => exact absurd (hr.nxt _ _ hc) (by omega)
    · exact hat id h1
  have hle : ρ.le (ρ.upd id ⟨w.heap.size, room, sz⟩) := Ren.le_upd hnone
  have hsz : (push w x).heap.size = w.heap.size + 1 := by simp [push]
  have hkept : ∀ b q, Base.kept b = some q → (push w x).heap[b]? = some q ∧ ∀ i y e, H'.get i = some y → y.live → (ρ.upd id ⟨w.heap.size, room, sz⟩) i = some e → e.blk ≠ b := by
    intro b q hk
    obtain ⟨h1, h2⟩ := hr.kept b q hk
    have hb : b < w.heap.size := (Array.getElem?_eq_some_iff.1 h1).1
    refine ⟨by rw [push_heap, if_neg (by omega)]; exact h1, fun i y e hi yl he => ?_⟩
    by_cases c : i = id
    · subst c; rw [Ren.upd_same] at he; simp only [Option.some.injEq] at he; subst he; simp only; omega
    · rw [Ren.upd_ne c] at he; rw [hget, if_neg c] at hi; exact h2 i y e hi yl he
  refine ⟨⟨fun i q hi ql => ?_, fun i j q q' f f' hi ql hj ql' hf hf' hb => ?_, fun i f hf => ?_, fun i f hf => ?_, hkept⟩, ⟨hle, fun i f h1 h2 => ?_, hnx, by omega, fun b hb hn => ?_, fun i q f hi ql hf hb => ?_, rfl, rfl, rfl, fun i hi hn ha q hq => ?_⟩, hle⟩
  · rw [hget] at hi
    by_cases c : i = id
    · subst c
      simp only [if_true, Option.some.injEq] at hi
      subst hi
      refine ⟨_, Ren.upd_same, ?_⟩
      rw [push_heap, if_pos rfl]
      exact ORel.mono hle _ _ _ ho
    · rw [if_neg c] at hi
      obtain ⟨f, hf, hq⟩ := hr.obj i q hi ql
      refine ⟨f, by rw [Ren.upd_ne c]; exact hf, ?_⟩
      have := hr.rng i f hf
      rw [push_heap, if_neg (by omega)]
      exact ORel.mono hle _ _ _ hq
  · rw [hget] at hi hj
    by_cases c : i = id
    · by_cases d : j = id
      · rw [c, d]
      · rw [Ren.upd_ne d] at hf'
        subst c
        rw [Ren.upd_same] at hf
        simp only [Option.some.injEq] at hf
        subst hf
        have := hr.rng j f' hf'
        simp only at hb; omega
    · rw [Ren.upd_ne c] at hf
      rw [if_neg c] at hi
      by_cases d : j = id
      · subst d
        rw [Ren.upd_same] at hf'
        simp only [Option.some.injEq] at hf'
        subst hf'
        have := hr.rng i f hf
        simp only at hb; omega
      · rw [Ren.upd_ne d] at hf'
        rw [if_neg d] at hj
        exact hr.inj i j q q' f f' hi ql hj ql' hf hf' hb
  · rw [hsz]
    by_cases c : i = id
    · subst c; rw [Ren.upd_same] at hf; simp only [Option.some.injEq] at hf; subst hf; simp
    · rw [Ren.upd_ne c] at hf; have := hr.rng i f hf; omega
  · by_cases c : i = id
    · subst c; exact hid
    · rw [Ren.upd_ne c] at hf; have := hr.nxt i f hf; omega
  · by_cases c : i = id
    · subst c
      rcases hcase with ⟨_, rfl⟩ | ⟨h3, _, _⟩
      · exact Or.inl (Nat.le_refl _)
      · exact Or.inr h3
    · rw [Ren.upd_ne c, h1] at h2; cases h2
  · rw [push_heap, if_neg (by omega)]
  · rw [hget] at hi
    by_cases c : i = id
    · subst c; rw [Ren.upd_same] at hf; simp only [Option.some.injEq] at hf; subst hf; simp at hb
    · rw [Ren.upd_ne c] at hf
      rw [if_neg c] at hi
      exact ⟨i, q, f, hi, ql, hf, rfl⟩
  · rw [hget] at hq
    by_cases c : i = id
    · subst c
      rcases hcase with ⟨_, rfl⟩ | ⟨h3, _, _⟩
      · omega
      · exact absurd h3 ha
    · rw [if_neg c] at hq; exact hn q hq

/-- an object takes the place of one that goes -/
theorem Rel.move [Base] (hr : Rel P ρ H w) {id : Nat} {o o' : AObj} {e : Ent} {x : Obj} {id' : Nat} {H' : Heap} (h : H.get id = some o) (hl : o.live) (he : ρ id = some e)
    (ha : (H.put id .gone).alloc none o' = some (id', H')) (ho : ORel P ρ e o' (some x)) :
    Rel P (ρ.upd id' e) H' (setBlk w e.blk x) ∧ Step none ρ H w (ρ.upd id' e) H' (setBlk w e.blk x) ∧ ρ.le (ρ.upd id' e) := by
  obtain ⟨hget, hnx, hid, hcase⟩ := Heap.alloc_spec ha
  have hidn : id' = H.next := by
    rcases hcase with ⟨_, h1⟩ | ⟨h1, _, _⟩
    · exact h1
    · cases h1
  have hnone : ρ id' = none := by
    cases hc : ρ id' with
    | none => rfl
    | some f => exact absurd (hr.nxt _ _ hc) (by omega)
  have hle : ρ.le (ρ.upd id' e) := Ren.le_upd hnone
  have hlt := hr.rng id e he
  have hne : id ≠ id' := fun c => by rw [← c, he] at hnone; cases hnone
  have old : ∀ i q, H'.get i = some q → q.live → i ≠ id' → i ≠ id ∧ H.get i = some q := by
    intro i q hi ql c
    rw [hget, if_neg c, Heap.get_put] at hi
    by_cases d : i = id
    · rw [if_pos d] at hi; simp only [Option.some.injEq] at hi; subst hi; exact ql.elim
    · rw [if_neg d] at hi; exact ⟨d, hi⟩
  have hkept : ∀ b q, Base.kept b = some q → (setBlk w e.blk x).heap[b]? = some q ∧ ∀ i y f, H'.get i = some y → y.live → (ρ.upd id' e) i = some f → f.blk ≠ b := by
    intro b q hk
    obtain ⟨h1, h2⟩ := hr.kept b q hk
    refine ⟨by rw [setBlk_heap, if_neg (fun hcon => h2 id o e h hl he hcon.1.symm)]; exact h1, fun i y f hi yl hf => ?_⟩
    by_cases c : i = id'
    · subst c; rw [Ren.upd_same] at hf; simp only [Option.some.injEq] at hf; subst hf; exact h2 id o e h hl he
    · rw [Ren.upd_ne c] at hf; obtain ⟨_, hi⟩ := old i y hi yl c; exact h2 i y f hi yl hf
  refine ⟨⟨fun i q hi ql => ?_, fun i j q q' f f' hi ql hj ql' hf hf' hb => ?_, fun i f hf => ?_, fun i f hf => ?_, hkept⟩, ⟨hle, fun i f h1 h2 => ?_, hnx, by rw [setBlk_size]; exact Nat.le_refl _, fun b hb hn => ?_, fun i q f hi ql hf hb => ?_, rfl, rfl, rfl, fun i hi hn ha q hq => ?_⟩, hle⟩
  · by_cases c : i = id'
    · subst c
      rw [hget, if_pos rfl] at hi
      simp only [Option.some.injEq] at hi
      subst hi
      refine ⟨e, Ren.upd_same, ?_⟩
      rw [setBlk_heap, if_pos ⟨rfl, hlt⟩]
      exact ORel.mono hle _ _ _ ho
    · obtain ⟨d, hi⟩ := old i q hi ql c
      obtain ⟨f, hf, hq⟩ := hr.obj i q hi ql
      refine ⟨f, by rw [Ren.upd_ne c]; exact hf, ?_⟩
      rw [setBlk_heap, if_neg (fun hcon => d (hr.inj i id q o f e hi ql h hl hf he hcon.1))]
      exact ORel.mono hle _ _ _ hq
  · by_cases c : i = id'
    · by_cases d : j = id'
      · rw [c, d]
      · obtain ⟨d2, hj⟩ := old j q' hj ql' d
        rw [Ren.upd_ne d] at hf'
        subst c; rw [Ren.upd_same] at hf; simp only [Option.some.injEq] at hf; subst hf
        exact absurd (hr.inj id j o q' e f' h hl hj ql' he hf' hb).symm d2
    · obtain ⟨c2, hi⟩ := old i q hi ql c
      rw [Ren.upd_ne c] at hf
      by_cases d : j = id'
      · subst d; rw [Ren.upd_same] at hf'; simp only [Option.some.injEq] at hf'; subst hf'
        exact absurd (hr.inj i id q o f e hi ql h hl hf he hb) c2
      · obtain ⟨_, hj⟩ := old j q' hj ql' d
        rw [Ren.upd_ne d] at hf'
        exact hr.inj i j q q' f f' hi ql hj ql' hf hf' hb
  · rw [setBlk_size]
    by_cases c : i = id'
    · subst c; rw [Ren.upd_same] at hf; simp only [Option.some.injEq] at hf; subst hf; exact hlt
    · rw [Ren.upd_ne c] at hf; exact hr.rng i f hf
  · by_cases c : i = id'
    · subst c; exact hid
    · rw [Ren.upd_ne c] at hf; have := hr.nxt i f hf; omega
  · by_cases c : i = id'
    · left; omega
    · rw [Ren.upd_ne c, h1] at h2; cases h2
  · rw [setBlk_heap, if_neg (fun hcon => hn id o e h hl he hcon.1.symm)]
  · by_cases c : i = id'
    · subst c; rw [Ren.upd_same] at hf; simp only [Option.some.injEq] at hf; subst hf
      exact ⟨id, o, e, h, hl, he, rfl⟩
    · obtain ⟨_, hi⟩ := old i q hi ql c
      rw [Ren.upd_ne c] at hf
      exact ⟨i, q, f, hi, ql, hf, rfl⟩
  · intro ql
    by_cases c : i = id'
    · subst c; omega
    · exact hn q (old i q hq ql c).2 ql

/-- storing several cells -/
theorem storeCells_run [Base] (hr : Rel P ρ H w) {id off : Nat} {vs : List AV} {H' : Heap} (h : storeCells H id off vs = some H') {us : List Value} (hu : VRels ρ vs us) :
    ∀ e, ρ id = some e → ∃ w', (Go.storeCells ⟨e.blk, off, none⟩ us).run P w = .ok () w' ∧ Rel P ρ H' w' ∧ Step none ρ H w ρ H' w' := by
  intro e he
  unfold storeCells at h
  split at h
  · rename_i b hb
    simp only [Option.bind_eq_some_iff, Option.some.injEq] at h
    obtain ⟨b', hs, rfl⟩ := h
    obtain ⟨e', cs, fr, he', hcs, hsz, hn, hfr, hg, hget⟩ := hr.cells hb
    rw [he] at he'
    simp only [Option.some.injEq] at he'
    subst he'
    obtain ⟨ht, hgg, hbn, hlen, hflat, hget'⟩ := Blk.store_spec vs b off b' hs
    have hul := VRels.length _ _ hu
    have hone : ∀ v ∈ us, v.oneCell' = true := by
      intro v hv
      obtain ⟨j, hj, rfl⟩ := List.mem_iff_getElem.1 hv
      have hj' : j < vs.length := by omega
      obtain ⟨u, h1, h2⟩ := VRels.get vs us j vs[j] hu (by simp)
      have : us[j] = u := by simpa [hj] using h1
      rw [this]
      exact flat_oneCell h2 (hflat _ (List.getElem_mem _))
    obtain ⟨cs', hrun, hcs', hval⟩ := run_storeCells' (P := P) us e.blk off 0 w cs b.t fr hcs (by
      rcases hlen with hlen | hlen
      · left; subst hlen; cases us with
        | nil => rfl
        | cons _ _ => simp at hul
      · right; omega) hfr.free hone
    have ho : ORel P ρ e (.cells b') (some (.cells cs' b.t fr)) := by
      refine ⟨ht.symm, by omega, by omega, hfr.of_eq (by omega), fun hg' => by rw [ht]; exact hg (by rw [← hgg]; exact hg'), fun k hk => ?_⟩
      rw [hval, hget']
      by_cases c : off ≤ k ∧ k < off + vs.length
      · rw [if_pos c, if_pos (by omega)]
        have hj : k - off < vs.length := by omega
        obtain ⟨u, h1, h2⟩ := VRels.get vs us (k - off) vs[k - off] hu (by simp)
        exact ⟨vs[k - off], u, by simp, by simpa using h1, h2⟩
      · rw [if_neg c, if_neg (by omega)]
        exact hget k (by omega)
    obtain ⟨h1, h2⟩ := hr.put hb trivial he ho
    exact ⟨_, hrun, h1, h2⟩
  · cases h
end
end AE
