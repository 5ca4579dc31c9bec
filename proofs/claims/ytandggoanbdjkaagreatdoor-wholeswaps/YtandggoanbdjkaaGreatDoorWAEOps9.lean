/- The abstract evaluator: copies, clears, min and max; the built-in functions. Conditions: none. -/
import Derived.Test.YtandggoanbdjkaaGreatDoorWAEOps6
import Derived.Calls
namespace AE
open Go

section
variable {P : Program} {ρ : Ren} {H : Heap} {w : World}

theorem copy_run [Base] (hr : Rel P ρ H w) {t xt ty : TypeId} {d x v : AV} {dv xv : Value} {H' : Heap} (hd : VRel ρ d dv) (hx : VRel ρ x xv) (h : copy P t d x H = some (v, H')) :
    Made P none ρ H w (Builtin.copy_ #[t, xt] ty #[dv, xv]) v H' := by
  unfold copy at h
  split at h
  · rename_i e hu
    simp only [Option.bind_eq_some_iff] at h
    obtain ⟨size, hsz, sl, hsl, dl, hdl, new, hnew, h⟩ := h
    obtain ⟨us, hus, hur, hul⟩ := srcCells_run hr hx hnew
    have hlen := srcLen_run (P := P) (w := w) hx hsl
    have hso := sizeOf_run (w := w) hsz
    have hfc := hus w rfl
    split at h
    · rename_i id off l c ex
      simp only [Option.bind_eq_some_iff, Option.some.injEq, Prod.mk.injEq] at h
      obtain ⟨H1, hst, rfl, rfl⟩ := h
      cases dv <;> try (simp [VRel] at hd; done)
      rename_i a l' c'
      cases a with
      | none => simp [VRel] at hd
      | some a =>
        simp only [VRel] at hd
        obtain ⟨rfl, _, ent, hent, rfl, _⟩ := hd
        simp only [srcLen, Option.some.injEq] at hdl; subst hdl
        obtain ⟨w', hrun, h1, h2⟩ := storeCells_run hr hst hur ent hent
        exact ⟨ρ, w', _, by simp [Builtin.copy_, run_underlying hu, hlen, hso, hfc, hrun]; rfl, by simp [goInt, VRel], h1, h2⟩
    · rename_i l c ex
      simp only [Option.some.injEq, Prod.mk.injEq] at h
      obtain ⟨rfl, rfl⟩ := h
      cases dv <;> try (simp [VRel] at hd; done)
      rename_i a l' c'
      cases a with
      | some _ => simp [VRel] at hd
      | none =>
        simp only [VRel] at hd
        obtain ⟨rfl, _⟩ := hd
        simp only [srcLen, Option.some.injEq] at hdl; subst hdl
        exact ⟨ρ, w, _, by simp [Builtin.copy_, run_underlying hu, hlen, hso, hfc]; rfl, by simp [goInt, VRel], hr, Step.refl ..⟩
    · split at h
      · rename_i hn0
        simp only [Option.some.injEq, Prod.mk.injEq] at h
        obtain ⟨rfl, rfl⟩ := h
        cases dv <;> try (simp [VRel] at hd; done)
        rename_i a l' c'
        cases a with
        | none => simp [VRel] at hd
        | some a =>
          simp only [VRel] at hd
          subst hd
          simp only [srcLen, Option.some.injEq] at hdl; subst hdl
          have hus0 : us = [] := by
            apply List.eq_nil_of_length_eq_zero
            rw [hul, hn0]; simp
          subst hus0
          rw [show sl.min 0 = 0 from hn0] at hfc
          have hst0 : (Go.storeCells a []).run P w = .ok () w := by simp [Go.storeCells]
          exact ⟨ρ, w, _, by simp [Builtin.copy_, run_underlying hu, hlen, hso, hfc, hst0]; rfl, by simp [goInt, VRel], hr, Step.refl ..⟩
      · cases h
    · cases h
  · cases h

theorem clear_run [Base] (hr : Rel P ρ H w) {t ty : TypeId} {x v : AV} {xv : Value} {H' : Heap} (hx : VRel ρ x xv) (h : clear P t x H = some (v, H')) :
    Made P none ρ H w (Builtin.clear_ #[t] ty #[xv]) v H' := by
  have hu0 : ∃ d, P.underlying t = some d := by
    cases hd : P.underlying t with
    | none => simp [clear, hd] at h
    | some d => exact ⟨d, rfl⟩
  obtain ⟨d, hd⟩ := hu0
  unfold clear at h
  split at h
  · cases h
  · rename_i l c ex
    simp only [Option.some.injEq, Prod.mk.injEq] at h
    obtain ⟨rfl, rfl⟩ := h
    cases xv <;> try (simp [VRel] at hx; done)
    rename_i a l' c'
    cases a with
    | some _ => simp [VRel] at hx
    | none => exact ⟨ρ, w, _, by simp [Builtin.clear_, run_underlying hd]; rfl, by simp [VRel, VRels], hr, Step.refl ..⟩
  · simp only [Option.some.injEq, Prod.mk.injEq] at h
    obtain ⟨rfl, rfl⟩ := h
    cases xv <;> try (simp [VRel] at hx; done)
    rename_i a l' c'
    cases a with
    | none => simp [VRel] at hx
    | some a =>
      simp only [VRel] at hx; subst hx
      exact ⟨ρ, w, _, by simp [Builtin.clear_, run_underlying hd]; rfl, by simp [VRel, VRels], hr, Step.refl ..⟩
  · rename_i b c ex _ _
    simp only [Option.some.injEq, Prod.mk.injEq] at h
    obtain ⟨rfl, rfl⟩ := h
    cases xv <;> try (cases b <;> simp [VRel] at hx; done)
    rename_i a l' c'
    have hl : l' = 0 := by
      cases a <;> cases b
      · simp only [VRel] at hx; exact hx.1.symm
      · simp [VRel] at hx
      · simp [VRel] at hx
      · simp only [VRel] at hx; exact hx.1.symm
    subst hl
    refine ⟨ρ, w, .tuple #[], ?_, ?_, hr, Step.refl ..⟩
    · cases a <;> simp [Builtin.clear_, run_underlying hd]
    · simp [VRel, VRels]
  · simp only [Option.some.injEq, Prod.mk.injEq] at h
    obtain ⟨rfl, rfl⟩ := h
    rcases map_rel hx with ⟨_, rfl⟩ | ⟨i, e1, h1, _⟩
    · exact ⟨ρ, w, _, by simp [Builtin.clear_, run_underlying hd]; rfl, by simp [VRel, VRels], hr, Step.refl ..⟩
    · cases h1
  · rename_i e id off n c ex _ hu
    simp only [Option.bind_eq_some_iff] at h
    obtain ⟨size, hsz, z, hz, h⟩ := h
    split at h
    · rename_i hzl
      simp only [Option.bind_eq_some_iff, Option.some.injEq, Prod.mk.injEq] at h
      obtain ⟨H1, hst, rfl, rfl⟩ := h
      cases xv <;> try (simp [VRel] at hx; done)
      rename_i a l' c'
      cases a with
      | none => simp [VRel] at hx
      | some a =>
        simp only [VRel] at hx
        obtain ⟨rfl, _, ent, hent, rfl, _⟩ := hx
        obtain ⟨it, zv, hit, hzv, hzr, hzc⟩ := zeroCells_of (ρ := ρ) hz
        have hzs : zv.cells.size = z.cells.length := by have := VRels.length _ _ hzc; simp only [Array.length_toList] at this; omega
        have hrel : VRels ρ (rep n z.cells) (Builtin.zeroCells zv.cells n).toList := zeros_rel hzc _ n (by rw [hzs])
        obtain ⟨w', hrun, h1, h2⟩ := storeCells_run hr hst hrel ent hent
        refine ⟨ρ, w', .tuple #[], ?_, by simp [VRel, VRels], h1, h2⟩
        have hne : n ≠ 0 := by intro hn0; subst hn0; simp_all
        simp [Builtin.clear_, run_underlying hu, zeroValue, typeInfo, hit, hzv, hrun, hne]
    · cases h
  · rename_i kt e r hu
    split at h
    · rename_i es hg
      obtain ⟨en, es', c, hen, hw, hrel⟩ := hr.map hg
      rcases map_rel hx with ⟨h1, _⟩ | ⟨i, e1, h1, h2, rfl⟩
      · cases h1
      simp only [Option.some.injEq] at h1; subst h1
      rw [hen] at h2; simp only [Option.some.injEq] at h2; subst h2
      simp only [Option.some.injEq, Prod.mk.injEq] at h
      obtain ⟨rfl, rfl⟩ := h
      have ho : ORel P ρ en (.map []) (some (.map #[] c)) := by simp [ORel, ERel]
      obtain ⟨h3, h4⟩ := hr.put hg trivial hen ho
      have hgo := getObj_run (P := P) hw (by simp)
      have hso := setObj_run (P := P) (o' := .map #[] c) hw (by simp)
      exact ⟨ρ, _, .tuple #[], by simp [Builtin.clear_, run_underlying hu, hgo, hso], by simp [VRel, VRels], h3, h4⟩
    · cases h
  · cases h

theorem minF_run {k : IntKind} : ∀ (rest : List AV) (us : List Value) (x : Int) (v : AV), VRels ρ rest us → minmaxF false k x rest = some v →
    ∃ u, (us.foldlM Builtin.min2 (.int k x)).run P w = .ok u w ∧ VRel ρ v u
  | [], us, x, v, hr, h => by
    cases us with
    | cons _ _ => simp [VRels] at hr
    | nil => simp only [minmaxF, Option.some.injEq] at h; subst h; exact ⟨.int k x, by simp, by simp [VRel]⟩
  | a :: rest, us, x, v, hr, h => by
    cases us with
    | nil => simp [VRels] at hr
    | cons u us =>
      simp only [VRels] at hr
      cases a <;> simp only [minmaxF, reduceCtorEq] at h
      rename_i k' y
      rw [int_rel hr.1]
      obtain ⟨u', h1, h2⟩ := minF_run rest us _ v hr.2 h
      refine ⟨u', ?_, h2⟩
      simp only [if_false] at h1
      simp only [List.foldlM_cons, Sem.run_bind, Builtin.min2, Sem.run_pure, Result.andThen_ok, h1]

theorem maxF_run {k : IntKind} : ∀ (rest : List AV) (us : List Value) (x : Int) (v : AV), VRels ρ rest us → minmaxF true k x rest = some v →
    ∃ u, (us.foldlM Builtin.max2 (.int k x)).run P w = .ok u w ∧ VRel ρ v u
  | [], us, x, v, hr, h => by
    cases us with
    | cons _ _ => simp [VRels] at hr
    | nil => simp only [minmaxF, Option.some.injEq] at h; subst h; exact ⟨.int k x, by simp, by simp [VRel]⟩
  | a :: rest, us, x, v, hr, h => by
    cases us with
    | nil => simp [VRels] at hr
    | cons u us =>
      simp only [VRels] at hr
      cases a <;> simp only [minmaxF, reduceCtorEq] at h
      rename_i k' y
      rw [int_rel hr.1]
      obtain ⟨u', h1, h2⟩ := maxF_run rest us _ v hr.2 h
      refine ⟨u', ?_, h2⟩
      simp only [if_true] at h1
      simp only [List.foldlM_cons, Sem.run_bind, Builtin.max2, Sem.run_pure, Result.andThen_ok, h1]

theorem minmax_run {mx : Bool} {ts : Array TypeId} {ty : TypeId} {args : List AV} {us : List Value} {v : AV} (hr : VRels ρ args us) (h : minmax mx args = some v) :
    Gives P ρ w ((if mx then Builtin.max_ else Builtin.min_) ts ty us.toArray) v := by
  cases args with
  | nil => simp [minmax] at h
  | cons a rest =>
    cases us with
    | nil => simp [VRels] at hr
    | cons u us =>
      simp only [VRels] at hr
      cases a <;> simp only [minmax, reduceCtorEq] at h
      rename_i k x
      rw [int_rel hr.1]
      cases mx with
      | true => simpa [Gives, Builtin.max_] using maxF_run (P := P) (w := w) rest us x v hr.2 h
      | false => simpa [Gives, Builtin.min_] using minF_run (P := P) (w := w) rest us x v hr.2 h
end
end AE
/- The abstract evaluator: what an operation that enters no function does. Conditions: none. -/
namespace AE
open Go

section
variable {P : Program} {ρ : Ren} {H : Heap} {w : World} {s : St} {a : Act}

/-- what is seen of some operands is what lies there -/
def Sees (ρ : Ren) (s : St) (a : Act) (os : List Operand) : Prop := ∀ x ∈ os, ∀ v, s.eval x = some v → VRel ρ v (a.eval x)

theorem Sees.mono {ρ' : Ren} {os : List Operand} (h : Sees ρ s a os) (hl : ρ.le ρ') : Sees ρ' s a os :=
  fun x hx v hv => VRel.mono hl _ _ (h x hx v hv)

theorem Sees.sub {os os' : List Operand} (h : Sees ρ s a os) (hl : ∀ x ∈ os', x ∈ os) : Sees ρ s a os' := fun x hx v hv => h x (hl x hx) v hv

theorem evals_rel : ∀ (os : List Operand) (vs : List AV), Sees ρ s a os → evals s os = some vs → VRels ρ vs (os.map a.eval)
  | [], vs, _, h => by simp only [evals, Option.some.injEq] at h; subst h; simp [VRels]
  | o :: os, vs, hs, h => by
    simp only [evals, Option.bind_eq_some_iff, Option.some.injEq] at h
    obtain ⟨v, hv, vs', hvs, rfl⟩ := h
    simp only [List.map_cons, VRels]
    exact ⟨hs o (by simp) v hv, evals_rel os vs' (hs.sub fun x hx => by simp [hx]) hvs⟩

theorem evalParts_rel : ∀ (os : List (Nat × Operand)) (vs : List (Nat × AV)), Sees ρ s a (os.map (·.2)) → evalParts s os = some vs → PRel ρ vs (os.map fun p => (p.1, a.eval p.2))
  | [], vs, _, h => by simp only [evalParts, Option.some.injEq] at h; subst h; simp [PRel]
  | (i, o) :: os, vs, hs, h => by
    simp only [evalParts, Option.bind_eq_some_iff, Option.some.injEq] at h
    obtain ⟨v, hv, vs', hvs, rfl⟩ := h
    simp only [List.map_cons, PRel]
    exact ⟨trivial, hs o (by simp) v hv, evalParts_rel os vs' (hs.sub fun x hx => by simp only [List.map_cons]; exact List.mem_cons_of_mem _ hx) hvs⟩

theorem evalOpt_rel {o : Option Operand} {r : Option AV} (hs : Sees ρ s a o.toList) (h : evalOpt s o = some r) : OptRel ρ r (o.map a.eval) := by
  cases o with
  | none => simp only [evalOpt, Option.some.injEq] at h; subst h; simp [OptRel]
  | some o =>
    simp only [evalOpt, Option.map_eq_some_iff] at h
    obtain ⟨v, hv, rfl⟩ := h
    simpa [OptRel] using hs o (by simp) v hv

/-- an operation that leaves the world as it is -/
def Still (P : Program) (ρ : Ren) (w : World) (s : Sem Next) (v : AV) : Prop := ∃ u, s.run P w = .ok (.value u) w ∧ VRel ρ v u

theorem Gives.still {m : Sem Value} {v : AV} (h : Gives P ρ w m v) : Still P ρ w (do pure (Next.value (← m))) v := by
  obtain ⟨u, h1, h2⟩ := h
  exact ⟨u, by simp [h1], h2⟩

/-- how an operation ends that enters nothing -/
def Done [Base] (P : Program) (at_ : Option Nat) (ρ : Ren) (H : Heap) (w : World) (s : Sem Next) (v : AV) (H' : Heap) : Prop :=
  ∃ ρ' w' u, (s.run P w = .ok (.value u) w' ∨ (s.run P w = .ok .skip w' ∧ u = undef)) ∧ VRel ρ' v u ∧ Rel P ρ' H' w' ∧ Step at_ ρ H w ρ' H' w'

theorem Still.done [Base] {m : Sem Next} {v : AV} {H : Heap} {at_ : Option Nat} (hr : Rel P ρ H w) (h : Still P ρ w m v) : Done P at_ ρ H w m v H := by
  obtain ⟨u, h1, h2⟩ := h
  exact ⟨ρ, w, u, .inl h1, h2, hr, Step.refl ..⟩

theorem Made.done [Base] {m : Sem Value} {v : AV} {H H' : Heap} {at_ : Option Nat} (h : Made P at_ ρ H w m v H') : Done P at_ ρ H w (do pure (Next.value (← m))) v H' := by
  obtain ⟨ρ', w', u, h1, h2, h3, h4⟩ := h
  exact ⟨ρ', w', u, .inl (by simp [h1]), h2, h3, h4⟩

theorem Lays.done [Base] {m : Sem Unit} {H H' : Heap} (h : Lays P ρ H w m H') : Done P none ρ H w (do m; pure Next.skip) .undef H' := by
  obtain ⟨w', h1, h3, h4⟩ := h
  exact ⟨ρ, w', undef, .inr ⟨by simp [h1], rfl⟩, by simp [AV.undef, undef, VRel, VRels], h3, h4⟩

theorem pv_spec {r : Option AV} {H H' : Heap} {v : AV} (h : (r.bind fun v => some (v, H)) = some (v, H')) : r = some v ∧ H' = H := by
  simp only [Option.bind_eq_some_iff, Option.some.injEq, Prod.mk.injEq] at h
  obtain ⟨_, h1, rfl, rfl⟩ := h
  exact ⟨h1, rfl⟩


/-- a conversion that only looks -/
theorem convert_still [Base] (hr : Rel P ρ H w) {at_ : Option Nat} {src dst : TypeId} {x v : AV} {xv : Value} {H' : Heap} (hx : VRel ρ x xv) (hc : (clsConvert P src dst).rank = 0)
    (h : convert P src dst x at_ H = some (v, H')) : H' = H ∧ Gives P ρ w (Go.convert src dst xv) v := by
  unfold convert at h
  split at h
  · rename_i k0 k k1 n hs hd
    simp only [Option.some.injEq, Prod.mk.injEq] at h
    obtain ⟨rfl, rfl⟩ := h
    rw [int_rel hx]
    refine ⟨rfl, Gives.int ?_⟩
    simp [Go.convert, run_underlying hs, run_underlying hd, Conv.intToInt]
  · rename_i s hs hd
    simp only [Option.some.injEq, Prod.mk.injEq] at h
    obtain ⟨rfl, rfl⟩ := h
    rw [str_rel hx]
    refine ⟨rfl, Gives.str ?_⟩
    simp [Go.convert, run_underlying hs, run_underlying hd]
  · rename_i e s hs hd
    simp [clsConvert, hs, hd, Cls.rank] at hc
  · rename_i hs hd
    simp [clsConvert, hs, hd, Cls.rank] at hc
  · rename_i e c ex hs hd
    split at h
    · rename_i he
      simp only [Option.some.injEq, Prod.mk.injEq] at h
      obtain ⟨rfl, rfl⟩ := h
      cases xv <;> try (simp [VRel] at hx; done)
      rename_i a l c'
      cases a with
      | some _ => simp [VRel] at hx
      | none =>
        refine ⟨rfl, Gives.str ?_⟩
        simp [Go.convert, run_underlying hs, run_underlying hd, run_underlying he, Conv.bytesToString]
    · cases h
  · rename_i e hs hd
    split at h
    · rename_i he
      simp only [Option.some.injEq, Prod.mk.injEq] at h
      obtain ⟨rfl, rfl⟩ := h
      cases xv <;> try (simp [VRel] at hx; done)
      rename_i a l c'
      cases a with
      | none => simp [VRel] at hx
      | some a =>
        simp only [VRel] at hx
        subst hx
        refine ⟨rfl, Gives.str ?_⟩
        simp [Go.convert, run_underlying hs, run_underlying hd, run_underlying he, Conv.bytesToString, Go.loadCells, Go.loadCellsFrom]
    · cases h
  · rename_i e id off len c ex hs hd
    split at h
    · rename_i he
      simp only [Option.bind_eq_some_iff, Option.some.injEq, Prod.mk.injEq] at h
      obtain ⟨cs, hcs, s, hss, rfl, rfl⟩ := h
      cases xv <;> try (simp [VRel] at hx; done)
      rename_i a l c'
      cases a with
      | none => simp [VRel] at hx
      | some a =>
        simp only [VRel] at hx
        obtain ⟨rfl, _, ent, hent, rfl, _⟩ := hx
        obtain ⟨us, hrun, hu, _⟩ := loadCells_run hr hcs ent hent
        refine ⟨rfl, Gives.str ?_⟩
        have := bytes_run (P := P) hu hss (hrun w rfl) c'
        simp [Go.convert, run_underlying hs, run_underlying hd, run_underlying he, this]
    · cases h
  · cases h

theorem run_builtin {b : Builtin} {args : Array Operand} {ats : Array TypeId} {dst : Option Tmp} {ty : TypeId} {pos : String} {after : Array Edge} {guard : Option (Nat × Bool)} :
    ∃ cs, (execOp a.eval ⟨dst, .call ⟨.builtin b, args, ats⟩, ty, pos, after, guard⟩).run P w = (Go.builtin b ats ty cs (args.map a.eval)).run P w :=
  ⟨_, by simp only [execOp, resolve, invoke, Sem.run_bind, Sem.run_pure, Result.andThen_ok]; rfl⟩

theorem two_of {ats : Array TypeId} {x y : TypeId} (h : ats.toList = [x, y]) : ats = #[x, y] := by apply Array.ext'; simpa using h
theorem one_of {ats : Array TypeId} {x : TypeId} (h : ats.toList = [x]) : ats = #[x] := by apply Array.ext'; simpa using h

theorem VRels.one {x : AV} {us : List Value} (h : VRels ρ [x] us) : ∃ u, us = [u] ∧ VRel ρ x u := by
  cases us with
  | nil => simp [VRels] at h
  | cons u us => cases us with
    | nil => simp only [VRels] at h; exact ⟨u, rfl, h.1⟩
    | cons _ _ => simp [VRels] at h

theorem VRels.two {x y : AV} {us : List Value} (h : VRels ρ [x, y] us) : ∃ u v, us = [u, v] ∧ VRel ρ x u ∧ VRel ρ y v := by
  cases us with
  | nil => simp [VRels] at h
  | cons u us => cases us with
    | nil => simp [VRels] at h
    | cons v us => cases us with
      | nil => simp only [VRels] at h; exact ⟨u, v, rfl, h.1, h.2.1⟩
      | cons _ _ => simp [VRels] at h

theorem builtin_len [Base] (hr : Rel P ρ H w) {ats : Array TypeId} {ty : TypeId} {cs : Array Bool} {vs : List AV} {us : List Value} {v : AV} {H' : Heap} (hv : VRels ρ vs us)
    (h : builtin P .len ats.toList vs H = some (v, H')) : H' = H ∧ Still P ρ w (Go.builtin .len ats ty cs us.toArray) v := by
  rcases hts : ats.toList with _ | ⟨t, _ | ⟨_, _⟩⟩ <;> rcases vs with _ | ⟨x, _ | ⟨_, _⟩⟩ <;> rw [hts] at h <;> simp only [builtin, reduceCtorEq] at h
  obtain ⟨u, rfl, hu⟩ := VRels.one hv
  rw [one_of hts]
  simp only [Option.map_eq_some_iff, Prod.mk.injEq] at h
  obtain ⟨_, h, rfl, rfl⟩ := h
  exact ⟨rfl, Gives.still (len_run hr hu h)⟩

theorem builtin_run [Base] (hr : Rel P ρ H w) {b : Builtin} {ats : Array TypeId} {ty : TypeId} {cs : Array Bool} {vs : List AV} {us : List Value} {v : AV} {H' : Heap} (hv : VRels ρ vs us)
    (h : builtin P b ats.toList vs H = some (v, H')) : Done P none ρ H w (Go.builtin b ats ty cs us.toArray) v H' := by
  cases b with
  | len => obtain ⟨h1, h2⟩ := builtin_len (ty := ty) (cs := cs) hr hv h; subst h1; exact h2.done hr
  | append =>
    rcases hts : ats.toList with _ | ⟨t, _ | ⟨t2, _ | ⟨_, _⟩⟩⟩ <;> rcases vs with _ | ⟨x, _ | ⟨y, _ | ⟨_, _⟩⟩⟩ <;> rw [hts] at h <;> simp only [builtin, reduceCtorEq] at h
    obtain ⟨u, v, rfl, hu, hw⟩ := VRels.two hv
    rw [two_of hts]
    exact (append_run hr hu hw h).done
  | copy =>
    rcases hts : ats.toList with _ | ⟨t, _ | ⟨t2, _ | ⟨_, _⟩⟩⟩ <;> rcases vs with _ | ⟨x, _ | ⟨y, _ | ⟨_, _⟩⟩⟩ <;> rw [hts] at h <;> simp only [builtin, reduceCtorEq] at h
    obtain ⟨u, v, rfl, hu, hw⟩ := VRels.two hv
    rw [two_of hts]
    exact (copy_run hr hu hw h).done
  | clear =>
    rcases hts : ats.toList with _ | ⟨t, _ | ⟨_, _⟩⟩ <;> rcases vs with _ | ⟨x, _ | ⟨_, _⟩⟩ <;> rw [hts] at h <;> simp only [builtin, reduceCtorEq] at h
    obtain ⟨u, rfl, hu⟩ := VRels.one hv
    rw [one_of hts]
    exact (clear_run hr hu h).done
  | delete =>
    rcases hts : ats.toList with _ | ⟨t, _ | ⟨t2, _ | ⟨_, _⟩⟩⟩ <;> rcases vs with _ | ⟨x, _ | ⟨y, _ | ⟨_, _⟩⟩⟩ <;> rw [hts] at h <;> simp only [builtin, reduceCtorEq] at h
    obtain ⟨u, u', rfl, hu, hw⟩ := VRels.two hv
    rw [two_of hts]
    simp only [Option.map_eq_some_iff, Prod.mk.injEq] at h
    obtain ⟨_, h, rfl, rfl⟩ := h
    obtain ⟨w', h1, h2, h3⟩ := mapDelete_run (tk := t2) (ty := ty) hr hu hw h
    exact ⟨ρ, w', .tuple #[], .inl (by simp [Go.builtin, h1]), by simp [VRel, VRels], h2, h3⟩
  | min =>
    simp only [builtin, Option.map_eq_some_iff, Prod.mk.injEq] at h
    obtain ⟨_, h, rfl, rfl⟩ := h
    exact (Gives.still (minmax_run (mx := false) (ts := ats) (ty := ty) hv h)).done hr
  | max =>
    simp only [builtin, Option.map_eq_some_iff, Prod.mk.injEq] at h
    obtain ⟨_, h, rfl, rfl⟩ := h
    exact (Gives.still (minmax_run (mx := true) (ts := ats) (ty := ty) hv h)).done hr
  | _ => simp [builtin] at h

/-- operations that look and make nothing -/
theorem opLocal_still [Base] (hr : Rel P ρ s.H w) {o : Oper} {at_ : Option Nat} {v : AV} {H' : Heap} (hs : Sees ρ s a o.op.operands.toList) (hc : (cls P o.op).rank = 0)
    (h : opLocal P s at_ o.op = some (v, H')) : H' = s.H ∧ Still P ρ w (execOp a.eval o) v := by
  obtain ⟨dst, op, guard, after, ty, pos⟩ := o
  dsimp only at *
  cases op with
  | move x =>
    simp only [opLocal] at h
    obtain ⟨hz, rfl⟩ := pv_spec h
    exact ⟨rfl, a.eval x, by simp [execOp], hs x (by simp [Op.operands]) v hz⟩
  | assign x =>
    simp only [opLocal] at h
    obtain ⟨hz, rfl⟩ := pv_spec h
    exact ⟨rfl, a.eval x, by simp [execOp], hs x (by simp [Op.operands]) v hz⟩
  | pick c x y =>
    simp only [opLocal, Option.bind_eq_some_iff] at h
    obtain ⟨cv, hcv, h⟩ := h
    have hcr := hs c (by simp [Op.operands]) cv hcv
    split at h
    · obtain ⟨hz, rfl⟩ := pv_spec h
      have hc2 := bool_rel hcr
      exact ⟨rfl, a.eval x, by simp [execOp, hc2, asBool], hs x (by simp [Op.operands]) v hz⟩
    · obtain ⟨hz, rfl⟩ := pv_spec h
      have hc2 := bool_rel hcr
      exact ⟨rfl, a.eval y, by simp [execOp, hc2, asBool], hs y (by simp [Op.operands]) v hz⟩
    · cases h
  | build t ps =>
    simp only [opLocal, Option.bind_eq_some_iff] at h
    obtain ⟨qs, hqs, h⟩ := h
    obtain ⟨hz, rfl⟩ := pv_spec (Option.bind_eq_some_iff.2 h)
    have hp := evalParts_rel ps.toList qs (hs.sub fun x hx => by simpa [Op.operands] using hx) hqs
    refine ⟨rfl, Gives.still ?_⟩
    exact build_run (qs := ps.map fun p => (p.1, a.eval p.2)) (by simpa using hp) hz
  | load t x =>
    simp only [opLocal, Option.bind_eq_some_iff] at h
    obtain ⟨av, hav, h⟩ := h
    obtain ⟨hz, rfl⟩ := pv_spec (Option.bind_eq_some_iff.2 h)
    obtain ⟨ad, u, h1, h2, h3⟩ := loadVar_run hr hz (hs x (by simp [Op.operands]) av hav)
    exact ⟨rfl, u, by simp [execOp, Instr.loadAt, Instr.sureAddr, h1, h2], h3⟩
  | nilCheck x =>
    simp only [opLocal, Option.bind_eq_some_iff] at h
    obtain ⟨av, hav, h⟩ := h
    have hx := hs x (by simp [Op.operands]) av hav
    split at h
    · cases h
    · cases h
    · cases h
    · cases h
    · rename_i n1 n2 n3 n4
      simp only [Option.some.injEq, Prod.mk.injEq] at h
      obtain ⟨rfl, rfl⟩ := h
      refine ⟨rfl, a.eval x, ?_, hx⟩
      cases hv : a.eval x <;> rw [hv] at hx <;> simp only [execOp, hv]
      all_goals first
        | rfl
        | (rename_i p; cases p with
            | none => cases av with
              | ptr q => cases q <;> first | exact absurd rfl n1 | (simp [VRel] at hx; done)
              | top => exact absurd rfl n4
              | _ => (simp [VRel] at hx; done)
            | some p => rfl)
        | (cases av <;> first | exact absurd rfl n2 | exact absurd rfl n3 | exact absurd rfl n4 | (simp [VRel] at hx; done))
        | (cases av <;> first
            | exact absurd rfl n4
            | (simp [VRel] at hx; done)
            | (simp only [VRel] at hx; obtain ⟨hfn, _⟩ := hx; subst hfn; rfl))
  | binOp op t x y yt =>
    simp only [opLocal, Option.bind_eq_some_iff] at h
    obtain ⟨xv, hx, yv, hy, h⟩ := h
    obtain ⟨hz, rfl⟩ := pv_spec (Option.bind_eq_some_iff.2 h)
    have hx' := hs x (by simp [Op.operands]) xv hx
    have hy' := hs y (by simp [Op.operands]) yv hy
    have hg := eqGuard_run (w := w) hx' hy' hz
    obtain ⟨u, h1, h2⟩ := binOp_run (w := w) hx' hy' hz
    exact ⟨rfl, u, by simp [execOp, hg, h1], h2⟩
  | unOp op t x =>
    simp only [opLocal, Option.bind_eq_some_iff] at h
    obtain ⟨xv, hx, h⟩ := h
    obtain ⟨hz, rfl⟩ := pv_spec (Option.bind_eq_some_iff.2 h)
    exact ⟨rfl, Gives.still (unOp_run (hs x (by simp [Op.operands]) xv hx) hz)⟩
  | makeInterface t x =>
    simp only [opLocal] at h
    split at h
    · cases h
    · rename_i d hd hu
      simp only [Option.bind_eq_some_iff, Option.some.injEq, Prod.mk.injEq] at h
      obtain ⟨xv, hx, rfl, rfl⟩ := h
      refine ⟨rfl, .iface t (a.eval x), ?_, by simp only [VRel]; exact ⟨trivial, hs x (by simp [Op.operands]) xv hx⟩⟩
      cases d <;> first | exact absurd rfl (hd _) | simp [execOp, Instr.makeInterface, run_underlying hu]
    · cases h
  | makeFunc fn first cap =>
    cases fn with
    | func f =>
      simp only [opLocal, Option.bind_eq_some_iff, Option.some.injEq, Prod.mk.injEq] at h
      obtain ⟨xs, hx, ys, hy, rfl, rfl⟩ := h
      refine ⟨rfl, .func (.func f) (first.map a.eval) (cap.map a.eval), by simp [execOp, Instr.makeFunc], ?_⟩
      simp only [VRel]
      refine ⟨trivial, ?_, ?_⟩
      · simpa using evals_rel _ _ (hs.sub fun x hx => by simp [Op.operands] at hx ⊢; exact .inl hx) hx
      · simpa using evals_rel _ _ (hs.sub fun x hx => by simp [Op.operands] at hx ⊢; exact .inr hx) hy
    | _ => simp [opLocal] at h
  | slice t x lo hi mx =>
    simp only [opLocal, Option.bind_eq_some_iff] at h
    obtain ⟨xv, hx, lv, hl, hv, hh, mv, hm, h⟩ := h
    obtain ⟨hz, rfl⟩ := pv_spec (Option.bind_eq_some_iff.2 h)
    refine ⟨rfl, Gives.still (slice_run (hs x (by simp [Op.operands]) xv hx) (evalOpt_rel (hs.sub fun y hy => ?_) hl) (evalOpt_rel (hs.sub fun y hy => ?_) hh) (evalOpt_rel (hs.sub fun y hy => ?_) hm) hz)⟩ <;>
      simp [Op.operands] at hy ⊢ <;> simp [hy]
  | fieldAddr t x f =>
    simp only [opLocal, Option.bind_eq_some_iff] at h
    obtain ⟨xv, hx, h⟩ := h
    obtain ⟨hz, rfl⟩ := pv_spec (Option.bind_eq_some_iff.2 h)
    exact ⟨rfl, Gives.still (fieldAddr_run (hs x (by simp [Op.operands]) xv hx) hz)⟩
  | field t x f =>
    simp only [opLocal, Option.bind_eq_some_iff] at h
    obtain ⟨xv, hx, h⟩ := h
    obtain ⟨hz, rfl⟩ := pv_spec (Option.bind_eq_some_iff.2 h)
    exact ⟨rfl, Gives.still (field_run (hs x (by simp [Op.operands]) xv hx) hz)⟩
  | indexAddr t x i =>
    simp only [opLocal, Option.bind_eq_some_iff] at h
    obtain ⟨xv, hx, iv, hi, h⟩ := h
    obtain ⟨hz, rfl⟩ := pv_spec (Option.bind_eq_some_iff.2 h)
    exact ⟨rfl, Gives.still (indexAddr_run (hs x (by simp [Op.operands]) xv hx) (hs i (by simp [Op.operands]) iv hi) hz)⟩
  | index t x i =>
    simp only [opLocal, Option.bind_eq_some_iff] at h
    obtain ⟨xv, hx, iv, hi, h⟩ := h
    obtain ⟨hz, rfl⟩ := pv_spec (Option.bind_eq_some_iff.2 h)
    exact ⟨rfl, Gives.still (index_run (hs x (by simp [Op.operands]) xv hx) (hs i (by simp [Op.operands]) iv hi) hz)⟩
  | lookup t x i ok =>
    simp only [opLocal, Option.bind_eq_some_iff] at h
    obtain ⟨xv, hx, iv, hi, h⟩ := h
    obtain ⟨hz, rfl⟩ := pv_spec (Option.bind_eq_some_iff.2 h)
    exact ⟨rfl, Gives.still (lookup_run hr (hs x (by simp [Op.operands]) xv hx) (hs i (by simp [Op.operands]) iv hi) hz)⟩
  | typeAssert x xt as ok =>
    simp only [opLocal, Option.bind_eq_some_iff] at h
    obtain ⟨xv, hx, h⟩ := h
    obtain ⟨hz, rfl⟩ := pv_spec (Option.bind_eq_some_iff.2 h)
    exact ⟨rfl, Gives.still (typeAssert_run (hs x (by simp [Op.operands]) xv hx) hz)⟩
  | extract x i =>
    simp only [opLocal, Option.bind_eq_some_iff] at h
    obtain ⟨xv, hx, h⟩ := h
    split at h
    · obtain ⟨hz, rfl⟩ := pv_spec h
      exact ⟨rfl, Gives.still (extract_run (hs x (by simp [Op.operands]) _ hx) rfl hz)⟩
    · cases h
  | convert src dst x =>
    simp only [opLocal, Option.bind_eq_some_iff] at h
    obtain ⟨xv, hx, h⟩ := h
    have hx' := hs x (by simp [Op.operands]) xv hx
    simp only [cls] at hc
    obtain ⟨h1, h2⟩ := convert_still hr hx' hc h
    exact ⟨h1, Gives.still h2⟩
  | call c =>
    obtain ⟨callee, args, ats⟩ := c
    cases callee with
    | builtin b =>
      simp only [opLocal, Option.bind_eq_some_iff] at h
      obtain ⟨vs, hvs, h⟩ := h
      cases b with
      | len =>
        have hv := evals_rel args.toList vs (hs.sub fun x hx => by simpa [Op.operands, Call.operands] using hx) hvs
        obtain ⟨cs, hrun⟩ := run_builtin (P := P) (w := w) (a := a) (b := .len) (args := args) (ats := ats) (dst := dst) (ty := guard) (pos := after) (after := ty) (guard := pos)
        obtain ⟨h1, u, h2, h3⟩ := builtin_len (ty := guard) (cs := cs) hr hv h
        refine ⟨h1, u, ?_, h3⟩
        rw [hrun, ← h2, show args.map a.eval = (args.toList.map a.eval).toArray from Array.ext' (by rw [Array.toList_map])]
      | min =>
        have hv := evals_rel args.toList vs (hs.sub fun x hx => by simpa [Op.operands, Call.operands] using hx) hvs
        obtain ⟨cs, hrun⟩ := run_builtin (P := P) (w := w) (a := a) (b := .min) (args := args) (ats := ats) (dst := dst) (ty := guard) (pos := after) (after := ty) (guard := pos)
        simp only [builtin, Option.map_eq_some_iff, Prod.mk.injEq] at h
        obtain ⟨_, h, rfl, rfl⟩ := h
        obtain ⟨u, h2, h3⟩ := Gives.still (minmax_run (w := w) (mx := false) (ts := ats) (ty := guard) hv h)
        refine ⟨rfl, u, ?_, h3⟩
        rw [hrun, ← h2, show args.map a.eval = (args.toList.map a.eval).toArray from Array.ext' (by rw [Array.toList_map])]
        rfl
      | max =>
        have hv := evals_rel args.toList vs (hs.sub fun x hx => by simpa [Op.operands, Call.operands] using hx) hvs
        obtain ⟨cs, hrun⟩ := run_builtin (P := P) (w := w) (a := a) (b := .max) (args := args) (ats := ats) (dst := dst) (ty := guard) (pos := after) (after := ty) (guard := pos)
        simp only [builtin, Option.map_eq_some_iff, Prod.mk.injEq] at h
        obtain ⟨_, h, rfl, rfl⟩ := h
        obtain ⟨u, h2, h3⟩ := Gives.still (minmax_run (w := w) (mx := true) (ts := ats) (ty := guard) hv h)
        refine ⟨rfl, u, ?_, h3⟩
        rw [hrun, ← h2, show args.map a.eval = (args.toList.map a.eval).toArray from Array.ext' (by rw [Array.toList_map])]
        rfl
      | _ => simp [cls, Cls.rank] at hc
    | _ => simp [cls, Cls.rank] at hc
  | _ => simp [cls, Cls.rank] at hc
end
end AE

/- The abstract evaluator: what an operation that enters no function does, all of them. Conditions: none. -/
namespace AE
open Go

section
variable {P : Program} {ρ : Ren} {H : Heap} {w : World} {s : St} {a : Act}

theorem makeMap_run [Base] (hr : Rel P ρ H w) {at_ : Option Nat} {t : TypeId} {r : Option Value} {id : Nat} {H' : Heap} (hat : ∀ i, at_ = some i → ρ i = none)
    (h : H.alloc at_ (.map []) = some (id, H')) (hm : r = none ∨ ∃ k n kt et, r = some (.int k n) ∧ P.underlying t = some (.map kt et)) :
    Made P at_ ρ H w (Instr.makeMap t r) (.map (some id)) H' := by
  have ho : ORel P ρ ⟨w.heap.size, 0, 0⟩ (.map []) (some (.map #[] 0)) := by simp [ORel, ERel]
  obtain ⟨h1, h2, h3⟩ := hr.alloc h hat ho
  refine ⟨_, _, .map (some w.heap.size), ?_, ?_, h1, h2⟩
  · have hnew : (Go.newObj (.map #[] 0)).run P w = .ok w.heap.size (push w (.map #[] 0)) := rfl
    rcases hm with rfl | ⟨k, n, kt, et, rfl, hu⟩
    · simp [Instr.makeMap, hnew]
    · simp [Instr.makeMap, hnew, run_underlying hu, asInt, asIntOf]
  · simp only [VRel]; exact ⟨_, Ren.upd_same, rfl⟩

theorem pu_spec {r : Option Heap} {H' : Heap} {v : AV} (h : (r.bind fun H => some (AV.undef, H)) = some (v, H')) : r = some H' ∧ v = .undef := by
  simp only [Option.bind_eq_some_iff, Option.some.injEq, Prod.mk.injEq] at h
  obtain ⟨_, h1, rfl, rfl⟩ := h
  exact ⟨h1, rfl⟩

theorem Done.weaken [Base] {at_ : Option Nat} {m : Sem Next} {v : AV} {H' : Heap} (h : Done P none ρ H w m v H') : Done P at_ ρ H w m v H' := by
  obtain ⟨ρ', w', u, h1, h2, h3, h4⟩ := h
  exact ⟨ρ', w', u, h1, h2, h3, h4.weaken⟩

set_option maxHeartbeats 1000000 in
theorem opLocal_run [Base] (hr : Rel P ρ s.H w) {o : Oper} {at_ : Option Nat} {v : AV} {H' : Heap} (hs : Sees ρ s a o.op.operands.toList) (hat : ∀ i, at_ = some i → ρ i = none)
    (h : opLocal P s at_ o.op = some (v, H')) : Done P at_ ρ s.H w (execOp a.eval o) v H' := by
  by_cases hc : (cls P o.op).rank = 0
  · obtain ⟨h1, h2⟩ := opLocal_still hr hs hc h
    subst h1
    exact h2.done hr
  obtain ⟨dst, op, ty, pos, after, guard⟩ := o
  dsimp only at *
  cases op with
  | alloc e =>
    simp only [opLocal, Option.bind_eq_some_iff] at h
    obtain ⟨z, hz, ⟨id, H1⟩, hn, h⟩ := h
    simp only [Option.some.injEq, Prod.mk.injEq] at h
    obtain ⟨rfl, rfl⟩ := h
    exact (alloc_run hr hz hat hn).done
  | box e x =>
    simp only [opLocal, Option.bind_eq_some_iff] at h
    obtain ⟨xv, hx, h⟩ := h
    split at h
    · cases h
    rename_i hkn
    simp only [Bool.not_eq_false] at hkn
    simp only [Option.bind_eq_some_iff] at h
    obtain ⟨⟨id, H1⟩, hn, h⟩ := h
    simp only [Option.some.injEq, Prod.mk.injEq] at h
    obtain ⟨rfl, rfl⟩ := h
    exact (box_run hr hkn (hs x (by simp [Op.operands]) xv hx) hat hn).done
  | buildSlice t n ps =>
    simp only [opLocal, Option.bind_eq_some_iff] at h
    obtain ⟨qs, hqs, h⟩ := h
    have hp := evalParts_rel ps.toList qs (hs.sub fun x hx => by simpa [Op.operands] using hx) hqs
    have hb : Made P at_ ρ s.H w (Instr.buildSlice t n (ps.map fun p => (p.1, a.eval p.2))) v H' := buildSlice_run hr (by simpa using hp) hat h
    exact Made.done hb
  | store t x y =>
    simp only [opLocal, Option.bind_eq_some_iff] at h
    obtain ⟨xv, hx, yv, hy, h⟩ := h
    obtain ⟨hz, rfl⟩ := pu_spec (Option.bind_eq_some_iff.2 h)
    obtain ⟨ad, w', h1, h2, h3, h4⟩ := storeVar_run hr hz (hs x (by simp [Op.operands]) xv hx) (hs y (by simp [Op.operands]) yv hy)
    refine Done.weaken (Lays.done ⟨w', ?_, h3, h4⟩)
    simp [Instr.storeAt, Instr.sureAddr, h1, h2]
  | convert src dst x =>
    simp only [opLocal, Option.bind_eq_some_iff] at h
    obtain ⟨xv, hx, h⟩ := h
    exact (convert_run hr (hs x (by simp [Op.operands]) xv hx) hat h).done
  | makeMap t r =>
    cases r with
    | none =>
      simp only [opLocal, Option.bind_eq_some_iff] at h
      obtain ⟨⟨id, H1⟩, hn, h⟩ := h
      simp only [Option.some.injEq, Prod.mk.injEq] at h
      obtain ⟨rfl, rfl⟩ := h
      exact (makeMap_run hr hat hn (.inl rfl)).done
    | some x =>
      simp only [opLocal] at h
      split at h
      · rename_i kt et hu
        simp only [Option.bind_eq_some_iff] at h
        obtain ⟨xv, hx, h⟩ := h
        split at h
        · rename_i k n
          simp only [Option.bind_eq_some_iff] at h
          obtain ⟨⟨id, H1⟩, hn, h⟩ := h
          simp only [Option.some.injEq, Prod.mk.injEq] at h
          obtain ⟨rfl, rfl⟩ := h
          have hx2 := int_rel (hs x (by simp [Op.operands]) _ hx)
          exact (makeMap_run hr hat hn (.inr ⟨k, n, kt, et, by rw [Option.map_some, hx2], hu⟩)).done
        · cases h
      · cases h
  | makeSlice t l c =>
    simp only [opLocal, Option.bind_eq_some_iff] at h
    obtain ⟨lv, hl, cv, hc, h⟩ := h
    exact (makeSlice_run hr (hs l (by simp [Op.operands]) lv hl) (hs c (by simp [Op.operands]) cv hc) hat h).done
  | mapUpdate t m k x =>
    simp only [opLocal, Option.bind_eq_some_iff] at h
    obtain ⟨mv, hm, kv, hk, xv, hx, h⟩ := h
    obtain ⟨hz, rfl⟩ := pu_spec (Option.bind_eq_some_iff.2 h)
    exact Done.weaken (Lays.done (mapUpdate_run hr (hs m (by simp [Op.operands]) mv hm) (hs k (by simp [Op.operands]) kv hk) (hs x (by simp [Op.operands]) xv hx) hz))
  | insert t m k x =>
    simp only [opLocal, Option.bind_eq_some_iff] at h
    obtain ⟨mv, hm, kv, hk, xv, hx, h⟩ := h
    obtain ⟨hz, rfl⟩ := pu_spec (Option.bind_eq_some_iff.2 h)
    exact Done.weaken (Lays.done (mapUpdate_run hr (hs m (by simp [Op.operands]) mv hm) (hs k (by simp [Op.operands]) kv hk) (hs x (by simp [Op.operands]) xv hx) hz))
  | call c =>
    obtain ⟨callee, args, ats⟩ := c
    cases callee with
    | builtin b =>
      simp only [opLocal, Option.bind_eq_some_iff] at h
      obtain ⟨vs, hvs, h⟩ := h
      have hv := evals_rel args.toList vs (hs.sub fun x hx => by simpa [Op.operands, Call.operands] using hx) hvs
      obtain ⟨cs, hrun⟩ := run_builtin (P := P) (w := w) (a := a) (b := b) (args := args) (ats := ats) (dst := dst) (ty := ty) (pos := pos) (after := after) (guard := guard)
      obtain ⟨ρ', w', u, h1, h2, h3, h4⟩ := (builtin_run (ty := ty) (cs := cs) hr hv h).weaken (at_ := at_)
      refine ⟨ρ', w', u, ?_, h2, h3, h4⟩
      rw [hrun, show args.map a.eval = (args.toList.map a.eval).toArray from Array.ext' (by rw [Array.toList_map])]
      exact h1
    | _ => simp [opLocal] at h
  | _ => first | (simp [opLocal] at h; done) | (simp [cls, Cls.rank] at hc; done)
end
end AE
