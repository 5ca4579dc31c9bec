/- From pieces to calls; calls without arguments that answer a plain value. Conditions: none. -/
import Derived.Test.YtandggoanbdjkaaGreatDoorWAEJ
namespace AE
open Go Go.RowKit
section
variable {P : Program} {K : Ren}

/-- a value that names no object: as it is, in every world -/
theorem VRel.plain {x : AV} (h : AV.under 0 x = true) {ρ ρ' : Ren} {u : Value} (hr : VRel ρ x u) : VRel ρ' x u := by
  have h1 := VRel.cut (N := 0) x u h hr
  exact VRel.mono (fun i e he => by have := (Ren.cut_some he).2; omega) x u h1

theorem calls_of_J [Base] {f : FuncId} {fn : Func} {c : Code} (hf : P.funcs[f]? = some fn) (hb : fn.body = some c) {args : List AV} {us : List Value} {ρ : Ren} {H : Heap} {w : World} (hk : K.le ρ) (hr : Rel P ρ H w) (hu : VRels ρ args us)
    {x : AExit} {s' : St} (h : J P K c { T := startT args 0 .leaf, n := (if args.length ≤ fn.ntmps then fn.ntmps else args.length), ds := [], H := H } x s') (hx : ∀ i, x ≠ .exit i) (hds : s'.ds = [])
    {vs : List AV} (hv : readResults P s' s'.H fn.results.toList = some vs) :
    Calls P f us.toArray w fun e w' => ∃ u ρ', e = .returned u ∧ VRel ρ' (oneOf vs) u ∧ Rel P ρ' s'.H w' ∧ Fr ρ H w ρ' s'.H w' := by
  refine calls_of_wp_defers hf hb (wp_mono (h ρ _ w hk hr (FRel.start hu fn.ntmps H)) ?_)
  rintro e a' w' ⟨rfl, ρ', hr', hf', hst, _⟩
  have hfd := hf'.ds
  rw [hds] at hfd
  have hxs : a'.defers = [] := by cases hx : a'.defers with | nil => rfl | cons _ _ => rw [hx] at hfd; simp [DefsOk] at hfd
  obtain ⟨u, h3, h4⟩ := results_run hr' hf' hv
  cases x with
  | exit i => exact absurd rfl (hx i)
  | normal =>
    show Leaves P fn a'.tmps _ a'.defers .returning w'
    rw [hxs]
    exact Leaves.nil ⟨u, h3, u, ρ', rfl, h4, hr', hst⟩
  | ret =>
    show Leaves P fn a'.tmps _ a'.defers .returning w'
    rw [hxs]
    exact Leaves.nil ⟨u, h3, u, ρ', rfl, h4, hr', hst⟩

/-- A call without arguments that answers a plain value, whatever lies in memory, and turns nothing of it. -/
def ClosedCall [Base] (P : Program) (f : FuncId) (v : AV) : Prop := ∀ w : World, (∀ b o, Base.kept b = some o → w.heap[b]? = some o) → Calls P f #[] w fun e w' => ∃ u, e = .returned u ∧ (∀ ρ, VRel ρ v u) ∧ Below w.heap.size w w'

theorem none_rel [Base] (n : Nat) (w : World) (hw : ∀ b o, Base.kept b = some o → w.heap[b]? = some o) : Rel P (fun _ => none) ⟨.leaf, n⟩ w :=
  ⟨fun i o h _ => by simp [Heap.get, Tr.get_leaf] at h, fun i j o o' e e' h => by simp [Heap.get, Tr.get_leaf] at h, fun i e h => (by cases h), fun i e h => (by cases h), fun b o hk => ⟨hw b o hk, fun i q e h => by simp [Heap.get, Tr.get_leaf] at h⟩⟩

theorem ClosedCall.of_J [Base] {f : FuncId} {fn : Func} {c : Code} (hf : P.funcs[f]? = some fn) (hb : fn.body = some c) {x : AExit} {s' : St} {v : AV}
    (h : J P (fun _ => none) c { T := .leaf, n := fn.ntmps, ds := [], H := ⟨.leaf, 0⟩ } x s') (hx : ∀ i, x ≠ .exit i) (hds : s'.ds = []) (hv : (readResults P s' s'.H fn.results.toList).map oneOf = some v) (hp : AV.under 0 v = true) : ClosedCall P f v := by
  intro w hw
  simp only [Option.map_eq_some_iff] at hv
  obtain ⟨vs, hvs, rfl⟩ := hv
  refine (calls_of_J (us := []) (K := fun _ => none) hf hb (fun i e h => by cases h) (none_rel 0 w hw) (by simp [VRels]) (args := []) (by simpa [startT] using h) hx hds hvs).mono ?_
  rintro e w' ⟨u, ρ', rfl, h1, _, h3⟩
  exact ⟨u, rfl, fun ρ => VRel.plain hp h1, h3.below⟩

theorem ClosedCall.of_callN [Base] {X : Spec} (hX : SpecOk P X) (hP : ProgOk P (drawOk P)) (hm : P.follows .mixedOrders = true) {n : Nat} {f : FuncId} {v : AV} {H' : Heap}
    (h : callN P X n false f [] ⟨.leaf, 0⟩ = some (v, H')) (hp : AV.under 0 v = true) (he : ∀ w, (callFunc f #[]).run P w = .ok (.enter f #[]) w) : ClosedCall P f v := by
  intro w hw
  rcases sound hX hP hm h (none_rel 0 w hw) (us := []) (by simp [VRels]) with ⟨_, h1⟩ | ⟨u, h1, _⟩
  · refine h1.mono ?_
    intro e w' hq
    cases e with
    | returned u =>
      obtain ⟨ρ', h2, h3, h4⟩ := hq
      exact ⟨u, rfl, fun ρ => VRel.plain hp h2, h4.fr.below⟩
    | panicked _ => exact hq.elim
    | outgrown => exact hq.elim
  · rw [he w] at h1; cases h1

/-- old objects are as they were where nothing old has turned -/
theorem Rel.below [Base] {ρ : Ren} {H : Heap} {w w' : World} (hr : Rel P ρ H w) (h : Below w.heap.size w w') : Rel P ρ H w' where
  obj i o hi hl := by
    obtain ⟨e, he, ho⟩ := hr.obj i o hi hl
    exact ⟨e, he, by rw [h.block e.blk (hr.rng i e he)]; exact ho⟩
  inj := hr.inj
  rng i e he := Nat.lt_of_lt_of_le (hr.rng i e he) h.size
  nxt := hr.nxt
  kept b o hk := ⟨by rw [h.block b (Array.getElem?_eq_some_iff.1 (hr.kept b o hk).1).1]; exact (hr.kept b o hk).1, (hr.kept b o hk).2⟩

theorem Step.below {ρ : Ren} {H : Heap} {w w' : World} (h : Below w.heap.size w w') : Step none ρ H w ρ H w' :=
  ⟨Ren.le_refl ρ, fun i e h h' => (by rw [h] at h'; cases h'), Nat.le_refl _, h.size, fun b hb _ => h.block b hb, fun i o e h l r _ => ⟨i, o, e, h, l, r, rfl⟩, h.os, h.tape, h.output, fun _ _ h _ => h⟩

/-- a closed call, told -/
def closedSpec (v : AV) : List AV → Heap → Option (AV × Heap)
  | [], H => some (v, H)
  | _, _ => none

theorem ClosedCall.spec [Base] {f : FuncId} {v : AV} (h : ClosedCall P f v) (he : ∀ w, (callFunc f #[]).run P w = .ok (.enter f #[]) w) : ∀ vs H v' H', closedSpec v vs H = some (v', H') → ∀ ρ w us, Rel P ρ H w → VRels ρ vs us →
    (callFunc f us.toArray).run P w = .ok (.enter f us.toArray) w ∧ Calls P f us.toArray w (Post P ρ H w v' H') := by
  intro vs H v' H' hs ρ w us hr hu
  cases vs with
  | cons _ _ => simp [closedSpec] at hs
  | nil =>
    simp only [closedSpec, Option.some.injEq, Prod.mk.injEq] at hs
    obtain ⟨rfl, rfl⟩ := hs
    cases us with
    | cons _ _ => simp [VRels] at hu
    | nil =>
      refine ⟨he w, (h w fun b o hk => (hr.kept b o hk).1).mono ?_⟩
      rintro e w' ⟨u, rfl, h1, h2⟩
      exact ⟨ρ, h1 ρ, hr.below h2, Step.below h2⟩
end
end AE
