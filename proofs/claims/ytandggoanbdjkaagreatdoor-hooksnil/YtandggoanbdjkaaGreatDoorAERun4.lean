/- The abstract evaluator: calls, by fuel. Conditions: none. -/
import Derived.Test.YtandggoanbdjkaaGreatDoorAERun3
import Derived.Laws.Sem
namespace AE
open Go

section
variable {P : Program} {ρ : Ren} {H : Heap} {w : World} {s : St} {a : Act} {callF : CallF} {D : Array Oper → Bool}

theorem startT_get : ∀ (vs : List AV) (i : Nat) (tr : Tr AV) (t : Nat), (startT vs i tr).get t = if i ≤ t ∧ t < i + vs.length then vs[t - i]? else tr.get t
  | [], i, tr, t => by simp only [startT, List.length_nil]; rw [if_neg (by omega)]
  | v :: vs, i, tr, t => by
    simp only [startT]
    rw [startT_get vs (i + 1) (tr.put i v) t]
    simp only [List.length_cons, Tr.get_put]
    by_cases h : i + 1 ≤ t ∧ t < i + 1 + vs.length
    · rw [if_pos h, if_pos (by omega), show t - i = (t - (i + 1)) + 1 by omega, List.getElem?_cons_succ]
    · rw [if_neg h]
      by_cases e : t = i
      · subst e; simp
      · rw [if_neg e, if_neg (by omega)]

theorem FRel.start {args : List AV} {us : List Value} (h : VRels ρ args us) (n : Nat) (H : Heap) :
    FRel P ρ { T := startT args 0 .leaf, n := (if args.length ≤ n then n else args.length), ds := [], H := H } { tmps := us.toArray ++ Array.replicate (n - us.toArray.size) undef, defers := [] } := by
  have hl := VRels.length _ _ h
  refine ⟨fun t => ?_, ?_, by simp [DefsOk]⟩
  · simp only [St.tmp, startT_get, Nat.zero_add, Nat.zero_le, true_and, Nat.sub_zero, Array.getD_eq_getD_getElem?]
    by_cases c : t < args.length
    · rw [if_pos c]
      obtain ⟨u, h1, h2⟩ := VRels.get args us t args[t] h (by simp)
      rw [Array.getElem?_append_left (by simp; omega)]
      simp only [List.getElem?_toArray, h1]
      simpa [c] using h2
    · rw [if_neg c]
      rw [Array.getElem?_append_right (by simp; omega)]
      have hg : (Tr.leaf : Tr AV).get t = none := by cases t <;> rfl
      rw [hg]
      simp only [Array.getElem?_replicate]
      split <;> exact undef_rel
  · simp only [Array.size_append, Array.size_replicate, List.size_toArray]
    split <;> omega

/-- the model's reading of a result -/
def rdRes (tmps : Array Value) (r : ResultVar) : Sem Value :=
  match r with
  | .tmp t => pure (tmps.getD t undef)
  | .cell b t => do Go.loadVar t (← asAddr (tmps.getD b undef))

theorem results_eq (fn : Func) (tmps : Array Value) : results fn tmps = (do let vs ← fn.results.mapM (rdRes tmps); pure (if h : vs.size = 1 then vs[0] else .tuple vs)) := rfl

theorem readResult_run [Base] (hr : Rel P ρ H w) {r : ResultVar} {v : AV} (hf : FRel P ρ s a) (h : readResult P s H r = some v) :
    ∃ u, (rdRes a.tmps r).run P w = .ok u w ∧ VRel ρ v u := by
  cases r with
  | tmp t =>
    simp only [readResult, Option.some.injEq] at h; subst h
    exact ⟨_, by simp [rdRes], hf.tmps t⟩
  | cell b t =>
    simp only [readResult] at h
    obtain ⟨ad, u, h1, h2, h3⟩ := loadVar_run hr h (hf.tmps b)
    exact ⟨u, by simp [rdRes, h1, asAddr, h2], h3⟩

theorem readResults_run [Base] (hr : Rel P ρ H w) (hf : FRel P ρ s a) : ∀ (rs : List ResultVar) (vs : List AV), readResults P s H rs = some vs →
    ∃ us, (rs.mapM (rdRes a.tmps)).run P w = .ok us w ∧ VRels ρ vs us
  | [], vs, h => by simp only [readResults, Option.some.injEq] at h; subst h; exact ⟨[], by simp, by simp [VRels]⟩
  | r :: rs, vs, h => by
    simp only [readResults, Option.bind_eq_some_iff, Option.some.injEq] at h
    obtain ⟨v, hv, vs', hvs, rfl⟩ := h
    obtain ⟨u, h1, h2⟩ := readResult_run hr hf hv
    obtain ⟨us, h3, h4⟩ := readResults_run hr hf rs vs' hvs
    refine ⟨u :: us, ?_, by simp only [VRels]; exact ⟨h2, h4⟩⟩
    simp only [List.mapM_cons, Sem.run_bind, Sem.run_pure]
    rw [h1]
    simp only [Result.andThen_ok]
    rw [h3]
    rfl

theorem results_run [Base] (hr : Rel P ρ H w) (hf : FRel P ρ s a) {fn : Func} {vs : List AV} (h : readResults P s H fn.results.toList = some vs) :
    ∃ u, (results fn a.tmps).run P w = .ok u w ∧ VRel ρ (oneOf vs) u := by
  obtain ⟨us, h1, h2⟩ := readResults_run hr hf _ _ h
  have hm : (fn.results.mapM (rdRes a.tmps)).run P w = .ok us.toArray w := by
    rw [Array.mapM_eq_mapM_toList]
    simp only [Sem.run_map, h1]
    rfl
  have hl := VRels.length _ _ h2
  clear h h1
  match vs, us, h2, hl, hm with
  | [], [], _, _, hm => exact ⟨.tuple #[], by simp only [results_eq, Sem.run_bind, hm, Result.andThen_ok]; rfl, by simp [oneOf, VRel, VRels]⟩
  | [v], [u], h2, _, hm => exact ⟨u, by simp only [results_eq, Sem.run_bind, hm, Result.andThen_ok]; rfl, by simp only [VRels] at h2; exact h2.1⟩
  | v1 :: v2 :: vs, u1 :: u2 :: us, h2, _, hm =>
    refine ⟨.tuple (u1 :: u2 :: us).toArray, ?_, by simp only [oneOf, VRel]; simpa using h2⟩
    simp only [results_eq, Sem.run_bind, hm, Result.andThen_ok]
    rw [dif_neg (by simp)]
    rfl

/-- deferred calls do what the abstract evaluator says -/
def DCallOk [Base] (P : Program) (callD : CallF) : Prop :=
  ∀ f vs H v H', callD f vs H = some (v, H') → ∀ ρ w us, Rel P ρ H w → VRels ρ vs us →
    (callFunc f us.toArray).run P w = .ok (.enter f us.toArray) w ∧ ∀ u, CallsD P f us.toArray u w fun e u' w' => u' = u ∧ Post P ρ H w v H' e w'

theorem runDefers_leaves [Base] {callD : CallF} (hC : DCallOk P callD) {fn : Func} {tmps : Array Value} {R : Ending → World → Prop} : ∀ (ds : List (FuncId × List AV)) (xs : List Deferred) (H H' : Heap) (ρ : Ren) (w : World),
    DefsOk P ρ ds xs → runDefers callD ds H = some H' → Rel P ρ H w →
    (∀ ρ' w', Rel P ρ' H' w' → Step none ρ H w ρ' H' w' → ∃ v, (results fn tmps).run P w' = .ok v w' ∧ R (.returned v) w') → Leaves P fn tmps R xs .returning w
  | [], xs, H, H', ρ, w, hd, h, hr, hq => by
    cases xs with
    | cons _ _ => simp [DefsOk] at hd
    | nil =>
      simp only [runDefers, Option.some.injEq] at h; subst h
      exact hq ρ w hr (Step.refl ..)
  | (f, vs) :: ds, xs, H, H', ρ, w, hd, h, hr, hq => by
    cases xs with
    | nil => simp [DefsOk] at hd
    | cons x xs =>
      simp only [DefsOk] at hd
      obtain ⟨⟨us, hus, ⟨fv, cap, htar⟩, hinv⟩, hds⟩ := hd
      simp only [runDefers, Option.bind_eq_some_iff] at h
      obtain ⟨⟨v, H1⟩, h1, h2⟩ := h
      obtain ⟨henter, hcall⟩ := hC f vs H v H1 h1 ρ w us hr hus
      refine ⟨by simp, fv, cap, f, us.toArray, htar, by rw [hinv]; exact henter, ?_⟩
      refine (hcall .returning).mono ?_
      rintro e u' w' ⟨rfl, he⟩
      cases e with
      | returned u =>
        obtain ⟨ρ', h3, h4, h5⟩ := he
        exact runDefers_leaves hC ds xs H1 H' ρ' w' (hds.mono h5.ext) h2 h4 (fun ρ'' w'' h6 h7 => hq ρ'' w'' h6 (h5.trans h7))
      | panicked _ => exact he.elim
      | outgrown => exact he.elim

theorem Leaves.nil {fn : Func} {tmps : Array Value} {R : Ending → World → Prop} (h : ∃ v, (results fn tmps).run P w = .ok v w ∧ R (.returned v) w) : Leaves P fn tmps R [] .returning w := h
end
end AE
