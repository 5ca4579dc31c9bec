/- The abstract evaluator: loads, stores and new objects keep the relation. Conditions: none. -/
import Derived.Test.YtandggoanbdjkaaGreatDoorAERel
namespace AE
open Go

def Ren.upd (ρ : Ren) (i : Nat) (e : Ent) : Ren := fun j => if j = i then some e else ρ j

theorem Ren.le_upd {ρ : Ren} {i : Nat} {e : Ent} (h : ρ i = none) : ρ.le (ρ.upd i e) := by
  intro j e' hj
  unfold Ren.upd
  by_cases c : j = i
  · subst c; rw [h] at hj; cases hj
  · rw [if_neg c]; exact hj

theorem Ren.upd_same {ρ : Ren} {i : Nat} {e : Ent} : ρ.upd i e i = some e := by simp [Ren.upd]
theorem Ren.upd_ne {ρ : Ren} {i j : Nat} {e : Ent} (h : j ≠ i) : ρ.upd i e j = ρ j := by simp [Ren.upd, h]

theorem Heap.get_put (H : Heap) (i : Nat) (o : AObj) (j : Nat) : (H.put i o).get j = if j = i then some o else H.get j := Tr.get_put ..

/-- what 'alloc' answers -/
theorem Heap.alloc_spec {H H' : Heap} {at_ : Option Nat} {o : AObj} {id : Nat} (h : H.alloc at_ o = some (id, H')) :
    (∀ j, H'.get j = if j = id then some o else H.get j) ∧ H.next ≤ H'.next ∧ id < H'.next ∧
    ((at_ = none ∧ id = H.next) ∨ (at_ = some id ∧ H.get id = none ∧ id < H.next)) := by
  unfold Heap.alloc at h
  cases at_ with
  | none =>
    simp only [Option.some.injEq, Prod.mk.injEq] at h
    obtain ⟨rfl, rfl⟩ := h
    refine ⟨fun j => ?_, by simp, by simp, Or.inl ⟨rfl, rfl⟩⟩
    simp only [Heap.get, Tr.get_put]
  | some i =>
    simp only at h
    split at h
    · rename_i hg
      split at h
      · rename_i hn
        simp only [Option.some.injEq, Prod.mk.injEq] at h
        obtain ⟨rfl, rfl⟩ := h
        refine ⟨fun j => ?_, by simp, by simpa using hn, Or.inr ⟨rfl, hg, hn⟩⟩
        simp only [Heap.get, Tr.get_put]
      · cases h
    · cases h

section
variable {P : Program} {ρ : Ren} {H : Heap} {w : World}

/-- A live object of the abstract heap: where it lies. -/
theorem Rel.cells [Base] (hr : Rel P ρ H w) {id : Nat} {b : Blk} (h : H.get id = some (.cells b)) :
    ∃ e cs fr, ρ id = some e ∧ w.heap[e.blk]? = some (.cells cs b.t fr) ∧ cs.size = e.room ∧ b.n ≤ cs.size ∧
      Thaw cs.size fr ∧ (b.g = true → sizeOf P b.t = some e.sz) ∧ ∀ k, k < b.n → ∃ x v, b.get k = some x ∧ cs[k]? = some v ∧ VRel ρ x v := by
  obtain ⟨e, he, ho⟩ := hr.obj id _ h trivial
  cases hx : w.heap[e.blk]? with
  | none => rw [hx] at ho; simp [ORel] at ho
  | some x =>
    rw [hx] at ho
    cases x with
    | cells cs T fr => simp only [ORel] at ho; obtain ⟨rfl, h2, h3, h4, h5, h6⟩ := ho; exact ⟨e, cs, fr, he, hx, h2, h3, h4, h5, h6⟩
    | _ => simp [ORel] at ho

theorem Rel.map [Base] (hr : Rel P ρ H w) {id : Nat} {es : List (AV × AV)} (h : H.get id = some (.map es)) :
    ∃ e es' c, ρ id = some e ∧ w.heap[e.blk]? = some (.map es' c) ∧ ERel ρ es es'.toList := by
  obtain ⟨e, he, ho⟩ := hr.obj id _ h trivial
  cases hx : w.heap[e.blk]? with
  | none => rw [hx] at ho; simp [ORel] at ho
  | some x =>
    rw [hx] at ho
    cases x with
    | map es' c => simp only [ORel] at ho; exact ⟨e, es', c, he, hx, ho⟩
    | _ => simp [ORel] at ho

theorem Blk.get_lt {b : Blk} {k : Nat} {x : AV} (h : b.get k = some x) : k < b.n := by
  unfold Blk.get at h
  split at h
  · assumption
  · cases h

theorem add_none (b off i : Nat) : (⟨b, off, none⟩ : Addr).add i = ⟨b, off + i, none⟩ := by
  unfold Addr.add; split
  · rename_i hi; subst hi; rfl
  · rfl

/-- loading several cells -/
theorem loadCells_run [Base] (hr : Rel P ρ H w) {id off n : Nat} {vs : List AV} (h : loadCells H id off n = some vs) :
    ∀ e, ρ id = some e → ∃ us : List Value, (∀ w' : World, w'.heap = w.heap → (Go.loadCells ⟨e.blk, off, none⟩ n).run P w' = .ok us.toArray w') ∧ VRels ρ vs us ∧ us.length = n := by
  intro e he
  unfold loadCells at h
  split at h
  · rename_i b hb
    obtain ⟨e', cs, fr, he', hcs, hsz, hn, _, _, hget⟩ := hr.cells hb
    rw [he] at he'
    simp only [Option.some.injEq] at he'
    subst he'
    obtain ⟨hl, hg⟩ := Blk.load_spec b n off vs h
    refine ⟨(List.range n).map fun j => cs.getD (off + j) undef, ?_, ?_, by simp⟩
    · intro w' hw'
      have := run_loadCells (P := P) w' ⟨e.blk, off, none⟩ n (fun j => cs.getD (off + j) undef) (fun j hj => by
        rw [add_none, cell_of_blk (w := w') (by rw [hw']; exact hcs)]
        have h1 := hg j hj
        have h2 : vs[j]? = some (vs[j]'(by omega)) := by simp
        rw [h2] at h1
        obtain ⟨x, v, _, hv, _⟩ := hget _ (Blk.get_lt h1)
        simp [hv])
      exact this
    · apply VRels.of_get
      · simp [hl]
      · intro j x hx
        have hj : j < n := by
          rcases Nat.lt_or_ge j n with h1 | h1
          · exact h1
          · rw [List.getElem?_eq_none (by omega)] at hx; cases hx
        have h1 := hg j hj
        rw [hx] at h1
        obtain ⟨x', v, hx', hv, hrel⟩ := hget _ (Blk.get_lt h1)
        rw [h1] at hx'
        simp only [Option.some.injEq] at hx'
        subst hx'
        refine ⟨v, ?_, hrel⟩
        simp [hj, hv]
  · cases h

theorem loadCells_live [Base] {id off n : Nat} {vs : List AV} (h : loadCells H id off n = some vs) (hr : Rel P ρ H w) : ∃ e, ρ id = some e := by
  unfold loadCells at h
  split at h
  · rename_i b hb
    obtain ⟨e, cs, fr, he, _⟩ := hr.cells hb
    exact ⟨e, he⟩
  · cases h

/-- an object is changed where it lies -/
theorem Rel.put [Base] (hr : Rel P ρ H w) {id : Nat} {o o' : AObj} {e : Ent} {x : Obj} (h : H.get id = some o) (hl : o.live) (he : ρ id = some e) (ho : ORel P ρ e o' (some x)) :
    Rel P ρ (H.put id o') (setBlk w e.blk x) ∧ Step none ρ H w ρ (H.put id o') (setBlk w e.blk x) := by
  have hlt := hr.rng id e he
  constructor
  · refine ⟨fun i q hi ql => ?_, fun i j q q' f f' hi ql hj ql' hf hf' hb => ?_, fun i f hf => ?_, fun i f hf => ?_, fun b q hk => ⟨?_, (hr.kept b q hk).2⟩⟩
    · rw [Heap.get_put] at hi
      by_cases c : i = id
      · subst c
        simp only [if_true, Option.some.injEq] at hi
        subst hi
        refine ⟨e, he, ?_⟩
        rw [setBlk_heap, if_pos ⟨rfl, hlt⟩]
        exact ho
      · rw [if_neg c] at hi
        obtain ⟨f, hf, hq⟩ := hr.obj i q hi ql
        refine ⟨f, hf, ?_⟩
        rw [setBlk_heap, if_neg ?_]
        · exact hq
        · intro hcon
          exact c (hr.inj i id q o f e hi ql h hl hf he hcon.1)
    · rw [Heap.get_put] at hi hj
      by_cases c : i = id
      · by_cases d : j = id
        · rw [c, d]
        · rw [if_neg d] at hj
          subst c
          exact hr.inj i j o q' f f' h hl hj ql' hf hf' hb
      · rw [if_neg c] at hi
        by_cases d : j = id
        · subst d
          exact hr.inj i j q o f f' hi ql h hl hf hf' hb
        · rw [if_neg d] at hj
          exact hr.inj i j q q' f f' hi ql hj ql' hf hf' hb
    · rw [setBlk_size]; exact hr.rng i f hf
    · exact hr.nxt i f hf
    · rw [setBlk_heap, if_neg (fun hcon => (hr.kept b q hk).2 id e he hcon.1.symm)]
      exact (hr.kept b q hk).1
  · refine ⟨Ren.le_refl ρ, fun i f h1 h2 => (by rw [h1] at h2; cases h2), Nat.le_refl _, by rw [setBlk_size]; exact Nat.le_refl _, fun b hb hn => ?_, fun i q f hi ql hf hb => ?_, rfl, rfl, rfl, fun i hi hn ha q hq => ?_⟩
    · rw [setBlk_heap, if_neg ?_]
      intro hcon
      exact hn id o e h hl he hcon.1.symm
    · rw [Heap.get_put] at hi
      by_cases c : i = id
      · subst c
        exact ⟨i, o, f, h, hl, hf, rfl⟩
      · rw [if_neg c] at hi
        exact ⟨i, q, f, hi, ql, hf, rfl⟩
    · rw [Heap.get_put] at hq
      by_cases c : i = id
      · subst c; exact absurd hl (hn o h)
      · rw [if_neg c] at hq; exact hn q hq

/-- an object goes -/
theorem Rel.kill [Base] (hr : Rel P ρ H w) (id : Nat) : Rel P ρ (H.put id .gone) w := by
  refine ⟨fun i q hi ql => ?_, fun i j q q' f f' hi ql hj ql' hf hf' hb => ?_, hr.rng, hr.nxt, hr.kept⟩
  · rw [Heap.get_put] at hi
    by_cases c : i = id
    · rw [if_pos c] at hi; simp only [Option.some.injEq] at hi; subst hi; exact ql.elim
    · rw [if_neg c] at hi; exact hr.obj i q hi ql
  · rw [Heap.get_put] at hi hj
    by_cases c : i = id
    · rw [if_pos c] at hi; simp only [Option.some.injEq] at hi; subst hi; exact ql.elim
    · by_cases d : j = id
      · rw [if_pos d] at hj; simp only [Option.some.injEq] at hj; subst hj; exact ql'.elim
      · rw [if_neg c] at hi; rw [if_neg d] at hj
        exact hr.inj i j q q' f f' hi ql hj ql' hf hf' hb

theorem Step.kill (id : Nat) : Step none ρ H w ρ (H.put id .gone) w := by
  refine ⟨Ren.le_refl ρ, fun i f h1 h2 => (by rw [h1] at h2; cases h2), Nat.le_refl _, Nat.le_refl _, fun _ _ _ => rfl, fun i q f hi ql hf hb => ?_, rfl, rfl, rfl, fun i hi hn ha q hq => ?_⟩
  · rw [Heap.get_put] at hi
    by_cases c : i = id
    · rw [if_pos c] at hi; simp only [Option.some.injEq] at hi; subst hi; exact ql.elim
    · rw [if_neg c] at hi; exact ⟨i, q, f, hi, ql, hf, rfl⟩
  · rw [Heap.get_put] at hq
    by_cases c : i = id
    · rw [if_pos c] at hq; simp only [Option.some.injEq] at hq; subst hq; exact fun h => h
    · rw [if_neg c] at hq; exact hn q hq

/-- the world with a new block -/
def push (w : World) (x : Obj) : World := { w with heap := w.heap.push x }

theorem push_heap (w : World) (x : Obj) (j : Nat) : (push w x).heap[j]? = if j = w.heap.size then some x else w.heap[j]? := by
  simp only [push, Array.getElem?_push]

/-- a new object, in a new block -/
theorem Rel.alloc [Base] (hr : Rel P ρ H w) {at_ : Option Nat} {o : AObj} {id : Nat} {H' : Heap} {x : Obj} {room sz : Nat} (h : H.alloc at_ o = some (id, H'))
    (hat : ∀ i, at_ = some i → ρ i = none) (ho : ORel P ρ ⟨w.heap.size, room, sz⟩ o (some x)) :
    Rel P (ρ.upd id ⟨w.heap.size, room, sz⟩) H' (push w x) ∧ Step at_ ρ H w (ρ.upd id ⟨w.heap.size, room, sz⟩) H' (push w x) ∧ ρ.le (ρ.upd id ⟨w.heap.size, room, sz⟩) := by
  obtain ⟨hget, hnx, hid, hcase⟩ := Heap.alloc_spec h
  have hnone : ρ id = none := by
    rcases hcase with ⟨_, rfl⟩ | ⟨h1, _, _⟩
    · cases hc : ρ H.next with
      | none => rfl
      | some e => exact absurd (hr.nxt _ _ hc) (by omega)
    · exact hat id h1
  have hle : ρ.le (ρ.upd id ⟨w.heap.size, room, sz⟩) := Ren.le_upd hnone
  have hsz : (push w x).heap.size = w.heap.size + 1 := by simp [push]
  have hkept : ∀ b q, Base.kept b = some q → (push w x).heap[b]? = some q ∧ ∀ i e, (ρ.upd id ⟨w.heap.size, room, sz⟩) i = some e → e.blk ≠ b := by
    intro b q hk
    obtain ⟨h1, h2⟩ := hr.kept b q hk
    have hb : b < w.heap.size := (Array.getElem?_eq_some_iff.1 h1).1
    refine ⟨by rw [push_heap, if_neg (by omega)]; exact h1, fun i e he => ?_⟩
    by_cases c : i = id
    · subst c; rw [Ren.upd_same] at he; simp only [Option.some.injEq] at he; subst he; simp only; omega
    · rw [Ren.upd_ne c] at he; exact h2 i e he
  refine ⟨⟨fun i q hi ql => ?_, fun i j q q' f f' hi ql hj ql' hf hf' hb => ?_, fun i f hf => ?_, fun i f hf => ?_, hkept⟩, ⟨hle, fun i f h1 h2 => ?_, hnx, by omega, fun b hb hn => ?_, fun i q f hi ql hf hb => ?_, rfl, rfl, rfl, fun i hi hn ha q hq => ?_⟩, hle⟩
  · rw [hget] at hi
    by_cases c : i = id
    · subst c
      simp only [if_true, Option.some.injEq] at hi
      subst hi
      refine ⟨_, Ren.upd_same, ?_⟩
      rw [push_heap, if_pos rfl]
      exact ORel.mono hle _ _ _ ho
    · rw [if_neg c] at hi
      obtain ⟨f, hf, hq⟩ := hr.obj i q hi ql
      refine ⟨f, by rw [Ren.upd_ne c]; exact hf, ?_⟩
      have := hr.rng i f hf
      rw [push_heap, if_neg (by omega)]
      exact ORel.mono hle _ _ _ hq
  · rw [hget] at hi hj
    by_cases c : i = id
    · by_cases d : j = id
      · rw [c, d]
      · rw [Ren.upd_ne d] at hf'
        subst c
        rw [Ren.upd_same] at hf
        simp only [Option.some.injEq] at hf
        subst hf
        have := hr.rng j f' hf'
        simp only at hb; omega
    · rw [Ren.upd_ne c] at hf
      rw [if_neg c] at hi
      by_cases d : j = id
      · subst d
        rw [Ren.upd_same] at hf'
        simp only [Option.some.injEq] at hf'
        subst hf'
        have := hr.rng i f hf
        simp only at hb; omega
      · rw [Ren.upd_ne d] at hf'
        rw [if_neg d] at hj
        exact hr.inj i j q q' f f' hi ql hj ql' hf hf' hb
  · rw [hsz]
    by_cases c : i = id
    · subst c; rw [Ren.upd_same] at hf; simp only [Option.some.injEq] at hf; subst hf; simp
    · rw [Ren.upd_ne c] at hf; have := hr.rng i f hf; omega
  · by_cases c : i = id
    · subst c; exact hid
    · rw [Ren.upd_ne c] at hf; have := hr.nxt i f hf; omega
  · by_cases c : i = id
    · subst c
      rcases hcase with ⟨_, rfl⟩ | ⟨h3, _, _⟩
      · exact Or.inl (Nat.le_refl _)
      · exact Or.inr h3
    · rw [Ren.upd_ne c, h1] at h2; cases h2
  · rw [push_heap, if_neg (by omega)]
  · rw [hget] at hi
    by_cases c : i = id
    · subst c; rw [Ren.upd_same] at hf; simp only [Option.some.injEq] at hf; subst hf; simp at hb
    · rw [Ren.upd_ne c] at hf
      rw [if_neg c] at hi
      exact ⟨i, q, f, hi, ql, hf, rfl⟩
  · rw [hget] at hq
    by_cases c : i = id
    · subst c
      rcases hcase with ⟨_, rfl⟩ | ⟨h3, _, _⟩
      · omega
      · exact absurd h3 ha
    · rw [if_neg c] at hq; exact hn q hq

/-- an object takes the place of one that goes -/
theorem Rel.move [Base] (hr : Rel P ρ H w) {id : Nat} {o o' : AObj} {e : Ent} {x : Obj} {id' : Nat} {H' : Heap} (h : H.get id = some o) (hl : o.live) (he : ρ id = some e)
    (ha : (H.put id .gone).alloc none o' = some (id', H')) (ho : ORel P ρ e o' (some x)) :
    Rel P (ρ.upd id' e) H' (setBlk w e.blk x) ∧ Step none ρ H w (ρ.upd id' e) H' (setBlk w e.blk x) ∧ ρ.le (ρ.upd id' e) := by
  obtain ⟨hget, hnx, hid, hcase⟩ := Heap.alloc_spec ha
  have hidn : id' = H.next := by
    rcases hcase with ⟨_, h1⟩ | ⟨h1, _, _⟩
    · exact h1
    · cases h1
  have hnone : ρ id' = none := by
    cases hc : ρ id' with
    | none => rfl
    | some f => exact absurd (hr.nxt _ _ hc) (by omega)
  have hle : ρ.le (ρ.upd id' e) := Ren.le_upd hnone
  have hlt := hr.rng id e he
  have hne : id ≠ id' := fun c => by rw [← c, he] at hnone; cases hnone
  have old : ∀ i q, H'.get i = some q → q.live → i ≠ id' → i ≠ id ∧ H.get i = some q := by
    intro i q hi ql c
    rw [hget, if_neg c, Heap.get_put] at hi
    by_cases d : i = id
    · rw [if_pos d] at hi; simp only [Option.some.injEq] at hi; subst hi; exact ql.elim
    · rw [if_neg d] at hi; exact ⟨d, hi⟩
  have hkept : ∀ b q, Base.kept b = some q → (setBlk w e.blk x).heap[b]? = some q ∧ ∀ i f, (ρ.upd id' e) i = some f → f.blk ≠ b := by
    intro b q hk
    obtain ⟨h1, h2⟩ := hr.kept b q hk
    refine ⟨by rw [setBlk_heap, if_neg (fun hcon => h2 id e he hcon.1.symm)]; exact h1, fun i f hf => ?_⟩
    by_cases c : i = id'
    · subst c; rw [Ren.upd_same] at hf; simp only [Option.some.injEq] at hf; subst hf; exact h2 id e he
    · rw [Ren.upd_ne c] at hf; exact h2 i f hf
  refine ⟨⟨fun i q hi ql => ?_, fun i j q q' f f' hi ql hj ql' hf hf' hb => ?_, fun i f hf => ?_, fun i f hf => ?_, hkept⟩, ⟨hle, fun i f h1 h2 => ?_, hnx, by rw [setBlk_size]; exact Nat.le_refl _, fun b hb hn => ?_, fun i q f hi ql hf hb => ?_, rfl, rfl, rfl, fun i hi hn ha q hq => ?_⟩, hle⟩
  · by_cases c : i = id'
    · subst c
      rw [hget, if_pos rfl] at hi
      simp only [Option.some.injEq] at hi
      subst hi
      refine ⟨e, Ren.upd_same, ?_⟩
      rw [setBlk_heap, if_pos ⟨rfl, hlt⟩]
      exact ORel.mono hle _ _ _ ho
    · obtain ⟨d, hi⟩ := old i q hi ql c
      obtain ⟨f, hf, hq⟩ := hr.obj i q hi ql
      refine ⟨f, by rw [Ren.upd_ne c]; exact hf, ?_⟩
      rw [setBlk_heap, if_neg (fun hcon => d (hr.inj i id q o f e hi ql h hl hf he hcon.1))]
      exact ORel.mono hle _ _ _ hq
  · by_cases c : i = id'
    · by_cases d : j = id'
      · rw [c, d]
      · obtain ⟨d2, hj⟩ := old j q' hj ql' d
        rw [Ren.upd_ne d] at hf'
        subst c; rw [Ren.upd_same] at hf; simp only [Option.some.injEq] at hf; subst hf
        exact absurd (hr.inj id j o q' e f' h hl hj ql' he hf' hb).symm d2
    · obtain ⟨c2, hi⟩ := old i q hi ql c
      rw [Ren.upd_ne c] at hf
      by_cases d : j = id'
      · subst d; rw [Ren.upd_same] at hf'; simp only [Option.some.injEq] at hf'; subst hf'
        exact absurd (hr.inj i id q o f e hi ql h hl hf he hb) c2
      · obtain ⟨_, hj⟩ := old j q' hj ql' d
        rw [Ren.upd_ne d] at hf'
        exact hr.inj i j q q' f f' hi ql hj ql' hf hf' hb
  · rw [setBlk_size]
    by_cases c : i = id'
    · subst c; rw [Ren.upd_same] at hf; simp only [Option.some.injEq] at hf; subst hf; exact hlt
    · rw [Ren.upd_ne c] at hf; exact hr.rng i f hf
  · by_cases c : i = id'
    · subst c; exact hid
    · rw [Ren.upd_ne c] at hf; have := hr.nxt i f hf; omega
  · by_cases c : i = id'
    · left; omega
    · rw [Ren.upd_ne c, h1] at h2; cases h2
  · rw [setBlk_heap, if_neg (fun hcon => hn id o e h hl he hcon.1.symm)]
  · by_cases c : i = id'
    · subst c; rw [Ren.upd_same] at hf; simp only [Option.some.injEq] at hf; subst hf
      exact ⟨id, o, e, h, hl, he, rfl⟩
    · obtain ⟨_, hi⟩ := old i q hi ql c
      rw [Ren.upd_ne c] at hf
      exact ⟨i, q, f, hi, ql, hf, rfl⟩
  · intro ql
    by_cases c : i = id'
    · subst c; omega
    · exact hn q (old i q hq ql c).2 ql

/-- storing several cells -/
theorem storeCells_run [Base] (hr : Rel P ρ H w) {id off : Nat} {vs : List AV} {H' : Heap} (h : storeCells H id off vs = some H') {us : List Value} (hu : VRels ρ vs us) :
    ∀ e, ρ id = some e → ∃ w', (Go.storeCells ⟨e.blk, off, none⟩ us).run P w = .ok () w' ∧ Rel P ρ H' w' ∧ Step none ρ H w ρ H' w' := by
  intro e he
  unfold storeCells at h
  split at h
  · rename_i b hb
    simp only [Option.bind_eq_some_iff, Option.some.injEq] at h
    obtain ⟨b', hs, rfl⟩ := h
    obtain ⟨e', cs, fr, he', hcs, hsz, hn, hfr, hg, hget⟩ := hr.cells hb
    rw [he] at he'
    simp only [Option.some.injEq] at he'
    subst he'
    obtain ⟨ht, hgg, hbn, hlen, hflat, hget'⟩ := Blk.store_spec vs b off b' hs
    have hul := VRels.length _ _ hu
    have hone : ∀ v ∈ us, v.oneCell' = true := by
      intro v hv
      obtain ⟨j, hj, rfl⟩ := List.mem_iff_getElem.1 hv
      have hj' : j < vs.length := by omega
      obtain ⟨u, h1, h2⟩ := VRels.get vs us j vs[j] hu (by simp)
      have : us[j] = u := by simpa [hj] using h1
      rw [this]
      exact flat_oneCell h2 (hflat _ (List.getElem_mem _))
    obtain ⟨cs', hrun, hcs', hval⟩ := run_storeCells' (P := P) us e.blk off 0 w cs b.t fr hcs (by
      rcases hlen with hlen | hlen
      · left; subst hlen; cases us with
        | nil => rfl
        | cons _ _ => simp at hul
      · right; omega) hfr.free hone
    have ho : ORel P ρ e (.cells b') (some (.cells cs' b.t fr)) := by
      refine ⟨ht.symm, by omega, by omega, hfr.of_eq (by omega), fun hg' => by rw [ht]; exact hg (by rw [← hgg]; exact hg'), fun k hk => ?_⟩
      rw [hval, hget']
      by_cases c : off ≤ k ∧ k < off + vs.length
      · rw [if_pos c, if_pos (by omega)]
        have hj : k - off < vs.length := by omega
        obtain ⟨u, h1, h2⟩ := VRels.get vs us (k - off) vs[k - off] hu (by simp)
        exact ⟨vs[k - off], u, by simp, by simpa using h1, h2⟩
      · rw [if_neg c, if_neg (by omega)]
        exact hget k (by omega)
    obtain ⟨h1, h2⟩ := hr.put hb trivial he ho
    exact ⟨_, hrun, h1, h2⟩
  · cases h
end
end AE
