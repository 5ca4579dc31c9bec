/- The abstract evaluator: copies, clears, min and max; the built-in functions. Conditions: none. -/
import Derived.Test.YtandggoanbdjkaaGreatDoorAEOps8
namespace AE
open Go

section
variable {P : Program} {ρ : Ren} {H : Heap} {w : World}

theorem copy_run [Base] (hr : Rel P ρ H w) {t xt ty : TypeId} {d x v : AV} {dv xv : Value} {H' : Heap} (hd : VRel ρ d dv) (hx : VRel ρ x xv) (h : copy P t d x H = some (v, H')) :
    Made P none ρ H w (Builtin.copy_ #[t, xt] ty #[dv, xv]) v H' := by
  unfold copy at h
  split at h
  · rename_i e hu
    simp only [Option.bind_eq_some_iff] at h
    obtain ⟨size, hsz, sl, hsl, dl, hdl, new, hnew, h⟩ := h
    obtain ⟨us, hus, hur, hul⟩ := srcCells_run hr hx hnew
    have hlen := srcLen_run (P := P) (w := w) hx hsl
    have hso := sizeOf_run (w := w) hsz
    have hfc := hus w rfl
    split at h
    · rename_i id off l c ex
      simp only [Option.bind_eq_some_iff, Option.some.injEq, Prod.mk.injEq] at h
      obtain ⟨H1, hst, rfl, rfl⟩ := h
      cases dv <;> try (simp [VRel] at hd; done)
      rename_i a l' c'
      cases a with
      | none => simp [VRel] at hd
      | some a =>
        simp only [VRel] at hd
        obtain ⟨rfl, _, ent, hent, rfl, _⟩ := hd
        simp only [srcLen, Option.some.injEq] at hdl; subst hdl
        obtain ⟨w', hrun, h1, h2⟩ := storeCells_run hr hst hur ent hent
        exact ⟨ρ, w', _, by simp [Builtin.copy_, run_underlying hu, hlen, hso, hfc, hrun]; rfl, by simp [goInt, VRel], h1, h2⟩
    · rename_i l c ex
      simp only [Option.some.injEq, Prod.mk.injEq] at h
      obtain ⟨rfl, rfl⟩ := h
      cases dv <;> try (simp [VRel] at hd; done)
      rename_i a l' c'
      cases a with
      | some _ => simp [VRel] at hd
      | none =>
        simp only [VRel] at hd
        obtain ⟨rfl, _⟩ := hd
        simp only [srcLen, Option.some.injEq] at hdl; subst hdl
        exact ⟨ρ, w, _, by simp [Builtin.copy_, run_underlying hu, hlen, hso, hfc]; rfl, by simp [goInt, VRel], hr, Step.refl ..⟩
    · split at h
      · rename_i hn0
        simp only [Option.some.injEq, Prod.mk.injEq] at h
        obtain ⟨rfl, rfl⟩ := h
        cases dv <;> try (simp [VRel] at hd; done)
        rename_i a l' c'
        cases a with
        | none => simp [VRel] at hd
        | some a =>
          simp only [VRel] at hd
          subst hd
          simp only [srcLen, Option.some.injEq] at hdl; subst hdl
          have hus0 : us = [] := by
            apply List.eq_nil_of_length_eq_zero
            rw [hul, hn0]; simp
          subst hus0
          rw [show sl.min 0 = 0 from hn0] at hfc
          have hst0 : (Go.storeCells a []).run P w = .ok () w := by simp [Go.storeCells]
          exact ⟨ρ, w, _, by simp [Builtin.copy_, run_underlying hu, hlen, hso, hfc, hst0]; rfl, by simp [goInt, VRel], hr, Step.refl ..⟩
      · cases h
    · cases h
  · cases h

theorem clear_run [Base] (hr : Rel P ρ H w) {t ty : TypeId} {x v : AV} {xv : Value} {H' : Heap} (hx : VRel ρ x xv) (h : clear P t x H = some (v, H')) :
    Made P none ρ H w (Builtin.clear_ #[t] ty #[xv]) v H' := by
  have hu0 : ∃ d, P.underlying t = some d := by
    cases hd : P.underlying t with
    | none => simp [clear, hd] at h
    | some d => exact ⟨d, rfl⟩
  obtain ⟨d, hd⟩ := hu0
  unfold clear at h
  split at h
  · cases h
  · rename_i l c ex
    simp only [Option.some.injEq, Prod.mk.injEq] at h
    obtain ⟨rfl, rfl⟩ := h
    cases xv <;> try (simp [VRel] at hx; done)
    rename_i a l' c'
    cases a with
    | some _ => simp [VRel] at hx
    | none => exact ⟨ρ, w, _, by simp [Builtin.clear_, run_underlying hd]; rfl, by simp [VRel, VRels], hr, Step.refl ..⟩
  · simp only [Option.some.injEq, Prod.mk.injEq] at h
    obtain ⟨rfl, rfl⟩ := h
    cases xv <;> try (simp [VRel] at hx; done)
    rename_i a l' c'
    cases a with
    | none => simp [VRel] at hx
    | some a =>
      simp only [VRel] at hx; subst hx
      exact ⟨ρ, w, _, by simp [Builtin.clear_, run_underlying hd]; rfl, by simp [VRel, VRels], hr, Step.refl ..⟩
  · rename_i b c ex _ _
    simp only [Option.some.injEq, Prod.mk.injEq] at h
    obtain ⟨rfl, rfl⟩ := h
    cases xv <;> try (cases b <;> simp [VRel] at hx; done)
    rename_i a l' c'
    have hl : l' = 0 := by
      cases a <;> cases b
      · simp only [VRel] at hx; exact hx.1.symm
      · simp [VRel] at hx
      · simp [VRel] at hx
      · simp only [VRel] at hx; exact hx.1.symm
    subst hl
    refine ⟨ρ, w, .tuple #[], ?_, ?_, hr, Step.refl ..⟩
    · cases a <;> simp [Builtin.clear_, run_underlying hd]
    · simp [VRel, VRels]
  · simp only [Option.some.injEq, Prod.mk.injEq] at h
    obtain ⟨rfl, rfl⟩ := h
    rcases map_rel hx with ⟨_, rfl⟩ | ⟨i, e1, h1, _⟩
    · exact ⟨ρ, w, _, by simp [Builtin.clear_, run_underlying hd]; rfl, by simp [VRel, VRels], hr, Step.refl ..⟩
    · cases h1
  · rename_i e id off n c ex _ hu
    simp only [Option.bind_eq_some_iff] at h
    obtain ⟨size, hsz, z, hz, h⟩ := h
    split at h
    · rename_i hzl
      simp only [Option.bind_eq_some_iff, Option.some.injEq, Prod.mk.injEq] at h
      obtain ⟨H1, hst, rfl, rfl⟩ := h
      cases xv <;> try (simp [VRel] at hx; done)
      rename_i a l' c'
      cases a with
      | none => simp [VRel] at hx
      | some a =>
        simp only [VRel] at hx
        obtain ⟨rfl, _, ent, hent, rfl, _⟩ := hx
        obtain ⟨it, zv, hit, hzv, hzr, hzc⟩ := zeroCells_of (ρ := ρ) hz
        have hzs : zv.cells.size = z.cells.length := by have := VRels.length _ _ hzc; simp only [Array.length_toList] at this; omega
        have hrel : VRels ρ (rep n z.cells) (Builtin.zeroCells zv.cells n).toList := zeros_rel hzc _ n (by rw [hzs])
        obtain ⟨w', hrun, h1, h2⟩ := storeCells_run hr hst hrel ent hent
        refine ⟨ρ, w', .tuple #[], ?_, by simp [VRel, VRels], h1, h2⟩
        have hne : n ≠ 0 := by intro hn0; subst hn0; simp_all
        simp [Builtin.clear_, run_underlying hu, zeroValue, typeInfo, hit, hzv, hrun, hne]
    · cases h
  · rename_i kt e r hu
    split at h
    · rename_i es hg
      obtain ⟨en, es', c, hen, hw, hrel⟩ := hr.map hg
      rcases map_rel hx with ⟨h1, _⟩ | ⟨i, e1, h1, h2, rfl⟩
      · cases h1
      simp only [Option.some.injEq] at h1; subst h1
      rw [hen] at h2; simp only [Option.some.injEq] at h2; subst h2
      simp only [Option.some.injEq, Prod.mk.injEq] at h
      obtain ⟨rfl, rfl⟩ := h
      have ho : ORel P ρ en (.map []) (some (.map #[] c)) := by simp [ORel, ERel]
      obtain ⟨h3, h4⟩ := hr.put hg trivial hen ho
      have hgo := getObj_run (P := P) hw (by simp)
      have hso := setObj_run (P := P) (o' := .map #[] c) hw (by simp)
      exact ⟨ρ, _, .tuple #[], by simp [Builtin.clear_, run_underlying hu, hgo, hso], by simp [VRel, VRels], h3, h4⟩
    · cases h
  · cases h

theorem minF_run {k : IntKind} : ∀ (rest : List AV) (us : List Value) (x : Int) (v : AV), VRels ρ rest us → minmaxF false k x rest = some v →
    ∃ u, (us.foldlM Builtin.min2 (.int k x)).run P w = .ok u w ∧ VRel ρ v u
  | [], us, x, v, hr, h => by
    cases us with
    | cons _ _ => simp [VRels] at hr
    | nil => simp only [minmaxF, Option.some.injEq] at h; subst h; exact ⟨.int k x, by simp, by simp [VRel]⟩
  | a :: rest, us, x, v, hr, h => by
    cases us with
    | nil => simp [VRels] at hr
    | cons u us =>
      simp only [VRels] at hr
      cases a <;> simp only [minmaxF, reduceCtorEq] at h
      rename_i k' y
      rw [int_rel hr.1]
      obtain ⟨u', h1, h2⟩ := minF_run rest us _ v hr.2 h
      refine ⟨u', ?_, h2⟩
      simp only [Bool.false_eq_true, if_false] at h1
      simp only [List.foldlM_cons, Sem.run_bind, Builtin.min2, Sem.run_pure, Result.andThen_ok, h1]

theorem maxF_run {k : IntKind} : ∀ (rest : List AV) (us : List Value) (x : Int) (v : AV), VRels ρ rest us → minmaxF true k x rest = some v →
    ∃ u, (us.foldlM Builtin.max2 (.int k x)).run P w = .ok u w ∧ VRel ρ v u
  | [], us, x, v, hr, h => by
    cases us with
    | cons _ _ => simp [VRels] at hr
    | nil => simp only [minmaxF, Option.some.injEq] at h; subst h; exact ⟨.int k x, by simp, by simp [VRel]⟩
  | a :: rest, us, x, v, hr, h => by
    cases us with
    | nil => simp [VRels] at hr
    | cons u us =>
      simp only [VRels] at hr
      cases a <;> simp only [minmaxF, reduceCtorEq] at h
      rename_i k' y
      rw [int_rel hr.1]
      obtain ⟨u', h1, h2⟩ := maxF_run rest us _ v hr.2 h
      refine ⟨u', ?_, h2⟩
      simp only [if_true] at h1
      simp only [List.foldlM_cons, Sem.run_bind, Builtin.max2, Sem.run_pure, Result.andThen_ok, h1]

theorem minmax_run {mx : Bool} {ts : Array TypeId} {ty : TypeId} {args : List AV} {us : List Value} {v : AV} (hr : VRels ρ args us) (h : minmax mx args = some v) :
    Gives P ρ w ((if mx then Builtin.max_ else Builtin.min_) ts ty us.toArray) v := by
  cases args with
  | nil => simp [minmax] at h
  | cons a rest =>
    cases us with
    | nil => simp [VRels] at hr
    | cons u us =>
      simp only [VRels] at hr
      cases a <;> simp only [minmax, reduceCtorEq] at h
      rename_i k x
      rw [int_rel hr.1]
      cases mx with
      | true => simpa [Gives, Builtin.max_] using maxF_run (P := P) (w := w) rest us x v hr.2 h
      | false => simpa [Gives, Builtin.min_] using minF_run (P := P) (w := w) rest us x v hr.2 h
end
end AE
