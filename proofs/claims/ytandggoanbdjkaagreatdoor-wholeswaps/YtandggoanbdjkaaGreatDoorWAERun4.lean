/- The abstract evaluator: calls, by fuel. Conditions: none. -/
import Derived.Test.YtandggoanbdjkaaGreatDoorWAERun1
import Derived.Laws.Sem
import Derived.Lib.Bytealg
namespace AE
open Go

section
variable {P : Program} {ρ : Ren} {H : Heap} {w : World} {s : St} {a : Act} {callF : CallF} {D : Array Oper → Bool}

theorem startT_get : ∀ (vs : List AV) (i : Nat) (tr : Tr AV) (t : Nat), (startT vs i tr).get t = if i ≤ t ∧ t < i + vs.length then vs[t - i]? else tr.get t
  | [], i, tr, t => by simp only [startT, List.length_nil]; rw [if_neg (by omega)]
  | v :: vs, i, tr, t => by
    simp only [startT]
    rw [startT_get vs (i + 1) (tr.put i v) t]
    simp only [List.length_cons, Tr.get_put]
    by_cases h : i + 1 ≤ t ∧ t < i + 1 + vs.length
    · rw [if_pos h, if_pos (by omega), show t - i = (t - (i + 1)) + 1 by omega, List.getElem?_cons_succ]
    · rw [if_neg h]
      by_cases e : t = i
      · subst e; simp
      · rw [if_neg e, if_neg (by omega)]

theorem FRel.start {args : List AV} {us : List Value} (h : VRels ρ args us) (n : Nat) (H : Heap) :
    FRel P ρ { T := startT args 0 .leaf, n := (if args.length ≤ n then n else args.length), ds := [], H := H } { tmps := us.toArray ++ Array.replicate (n - us.toArray.size) undef, defers := [] } := by
  have hl := VRels.length _ _ h
  refine ⟨fun t => ?_, ?_, by simp [DefsOk]⟩
  · simp only [St.tmp, startT_get, Nat.zero_add, Nat.zero_le, true_and, Nat.sub_zero, Array.getD_eq_getD_getElem?]
    by_cases c : t < args.length
    · rw [if_pos c]
      obtain ⟨u, h1, h2⟩ := VRels.get args us t args[t] h (by simp)
      rw [Array.getElem?_append_left (by simp; omega)]
      simp only [List.getElem?_toArray, h1]
      simpa [c] using h2
    · rw [if_neg c]
      rw [Array.getElem?_append_right (by simp; omega)]
      have hg : (Tr.leaf : Tr AV).get t = none := by cases t <;> rfl
      rw [hg]
      simp only [Array.getElem?_replicate]
      split <;> exact undef_rel
  · simp only [Array.size_append, Array.size_replicate, List.size_toArray]
    split <;> omega

/-- the model's reading of a result -/
def rdRes (tmps : Array Value) (r : ResultVar) : Sem Value :=
  match r with
  | .tmp t => pure (tmps.getD t undef)
  | .cell b t => do Go.loadVar t (← asAddr (tmps.getD b undef))

theorem results_eq (fn : Func) (tmps : Array Value) : results fn tmps = (do let vs ← fn.results.mapM (rdRes tmps); pure (if h : vs.size = 1 then vs[0] else .tuple vs)) := rfl

theorem readResult_run [Base] (hr : Rel P ρ H w) {r : ResultVar} {v : AV} (hf : FRel P ρ s a) (h : readResult P s H r = some v) :
    ∃ u, (rdRes a.tmps r).run P w = .ok u w ∧ VRel ρ v u := by
  cases r with
  | tmp t =>
    simp only [readResult, Option.some.injEq] at h; subst h
    exact ⟨_, by simp [rdRes], hf.tmps t⟩
  | cell b t =>
    simp only [readResult] at h
    obtain ⟨ad, u, h1, h2, h3⟩ := loadVar_run hr h (hf.tmps b)
    exact ⟨u, by simp [rdRes, h1, asAddr, h2], h3⟩

theorem readResults_run [Base] (hr : Rel P ρ H w) (hf : FRel P ρ s a) : ∀ (rs : List ResultVar) (vs : List AV), readResults P s H rs = some vs →
    ∃ us, (rs.mapM (rdRes a.tmps)).run P w = .ok us w ∧ VRels ρ vs us
  | [], vs, h => by simp only [readResults, Option.some.injEq] at h; subst h; exact ⟨[], by simp, by simp [VRels]⟩
  | r :: rs, vs, h => by
    simp only [readResults, Option.bind_eq_some_iff, Option.some.injEq] at h
    obtain ⟨v, hv, vs', hvs, rfl⟩ := h
    obtain ⟨u, h1, h2⟩ := readResult_run hr hf hv
    obtain ⟨us, h3, h4⟩ := readResults_run hr hf rs vs' hvs
    refine ⟨u :: us, ?_, by simp only [VRels]; exact ⟨h2, h4⟩⟩
    simp only [List.mapM_cons, Sem.run_bind, Sem.run_pure]
    rw [h1]
    simp only [Result.andThen_ok]
    rw [h3]
    rfl

theorem results_run [Base] (hr : Rel P ρ H w) (hf : FRel P ρ s a) {fn : Func} {vs : List AV} (h : readResults P s H fn.results.toList = some vs) :
    ∃ u, (results fn a.tmps).run P w = .ok u w ∧ VRel ρ (oneOf vs) u := by
  obtain ⟨us, h1, h2⟩ := readResults_run hr hf _ _ h
  have hm : (fn.results.mapM (rdRes a.tmps)).run P w = .ok us.toArray w := by
    rw [Array.mapM_eq_mapM_toList]
    simp only [Sem.run_map, h1]
    rfl
  have hl := VRels.length _ _ h2
  clear h h1
  match vs, us, h2, hl, hm with
  | [], [], _, _, hm => exact ⟨.tuple #[], by simp only [results_eq, Sem.run_bind, hm, Result.andThen_ok]; rfl, by simp [oneOf, VRel, VRels]⟩
  | [v], [u], h2, _, hm => exact ⟨u, by simp only [results_eq, Sem.run_bind, hm, Result.andThen_ok]; rfl, by simp only [VRels] at h2; exact h2.1⟩
  | v1 :: v2 :: vs, u1 :: u2 :: us, h2, _, hm =>
    refine ⟨.tuple (u1 :: u2 :: us).toArray, ?_, by simp only [oneOf, VRel]; simpa using h2⟩
    simp only [results_eq, Sem.run_bind, hm, Result.andThen_ok]
    rw [dif_neg (by simp)]
    rfl

/-- deferred calls do what the abstract evaluator says -/
def DCallOk [Base] (P : Program) (callD : CallF) : Prop :=
  ∀ f vs H v H', callD f vs H = some (v, H') → ∀ ρ w us, Rel P ρ H w → VRels ρ vs us →
    (callFunc f us.toArray).run P w = .ok (.enter f us.toArray) w ∧ ∀ u, CallsD P f us.toArray u w fun e u' w' => u' = u ∧ Post P ρ H w v H' e w'

theorem runDefers_leaves [Base] {callD : CallF} (hC : DCallOk P callD) {fn : Func} {tmps : Array Value} {R : Ending → World → Prop} : ∀ (ds : List (FuncId × List AV)) (xs : List Deferred) (H H' : Heap) (ρ : Ren) (w : World),
    DefsOk P ρ ds xs → runDefers callD ds H = some H' → Rel P ρ H w →
    (∀ ρ' w', Rel P ρ' H' w' → Step none ρ H w ρ' H' w' → ∃ v, (results fn tmps).run P w' = .ok v w' ∧ R (.returned v) w') → Leaves P fn tmps R xs .returning w
  | [], xs, H, H', ρ, w, hd, h, hr, hq => by
    cases xs with
    | cons _ _ => simp [DefsOk] at hd
    | nil =>
      simp only [runDefers, Option.some.injEq] at h; subst h
      exact hq ρ w hr (Step.refl ..)
  | (f, vs) :: ds, xs, H, H', ρ, w, hd, h, hr, hq => by
    cases xs with
    | nil => simp [DefsOk] at hd
    | cons x xs =>
      simp only [DefsOk] at hd
      obtain ⟨⟨us, hus, ⟨fv, cap, htar⟩, hinv⟩, hds⟩ := hd
      simp only [runDefers, Option.bind_eq_some_iff] at h
      obtain ⟨⟨v, H1⟩, h1, h2⟩ := h
      obtain ⟨henter, hcall⟩ := hC f vs H v H1 h1 ρ w us hr hus
      refine ⟨by simp, fv, cap, f, us.toArray, htar, by rw [hinv]; exact henter, ?_⟩
      refine (hcall .returning).mono ?_
      rintro e u' w' ⟨rfl, he⟩
      cases e with
      | returned u =>
        obtain ⟨ρ', h3, h4, h5⟩ := he
        exact runDefers_leaves hC ds xs H1 H' ρ' w' (hds.mono h5.ext) h2 h4 (fun ρ'' w'' h6 h7 => hq ρ'' w'' h6 (h5.trans h7))
      | panicked _ => exact he.elim
      | outgrown => exact he.elim

theorem Leaves.nil {fn : Func} {tmps : Array Value} {R : Ending → World → Prop} (h : ∃ v, (results fn tmps).run P w = .ok v w ∧ R (.returned v) w) : Leaves P fn tmps R [] .returning w := h
end
end AE
/- The abstract evaluator is sound: what it answers, a call gives. Conditions: none. -/
namespace AE
open Go

/-- What a program's functions are to be, for the abstract evaluator. -/
structure ProgOk (P : Program) (D : Array Oper → Bool) : Prop where
  names : ∀ (f : FuncId) (fn : Func), P.funcs[f]? = some fn → (fn.name == "runtime.NumGoroutine") = false
  draws : ∀ (f : FuncId) (fn : Func) (c : Code), P.funcs[f]? = some fn → fn.body = some c → Draws D c = true
  origins : ∀ (f : FuncId) (fn : Func), P.funcs[f]? = some fn → fn.body = none → fn.origin = ""

section
variable {P : Program} {ρ : Ren} {H : Heap} {w : World} {s : St} {a : Act} {callF : CallF} {D : Array Oper → Bool}

theorem idxByte_eq (c : UInt8) : ∀ (l : List UInt8) (i : Nat), idxByte c l i = if Lib.indexByte l c = -1 then -1 else Lib.indexByte l c + i
  | [], i => by simp [idxByte, Lib.indexByte]
  | b :: l, i => by
    have hge := Lib.indexByte_ge l c
    have e : Lib.indexByte (b :: l) c = if b == c then 0 else if Lib.indexByte l c == -1 then -1 else Lib.indexByte l c + 1 := rfl
    have ih := idxByte_eq c l (i + 1)
    simp only [idxByte]
    generalize Lib.indexByte (b :: l) c = z at *
    generalize Lib.indexByte l c = y at *
    by_cases h : (b == c) = true
    · rw [if_pos h] at e ⊢; subst e; simp
    · rw [if_neg h] at e ⊢
      rw [ih]
      by_cases h2 : y = -1
      · subst h2; simp at e; subst e; simp
      · have h3 : (y == -1) = false := by simpa using h2
        rw [h3] at e
        simp only [Bool.false_eq_true, if_false] at e
        subst e
        rw [if_neg h2, if_neg (by omega)]
        omega

theorem find_index : Extern.allGenericRows.lookup "internal/bytealg.IndexByteString" = none ∧ Extern.allTypedRows.lookup "internal/bytealg.IndexByteString" = none ∧
    Extern.allRows.lookup "internal/bytealg.IndexByteString" = some Extern.BytealgIndexByte.indexByte ∧ Extern.allNextRows.lookup "internal/bytealg.IndexByteString" = none :=
  ⟨by kernel_rfl, by kernel_rfl, by kernel_rfl, by kernel_rfl⟩

theorem find_add : Extern.allGenericRows.lookup "math/bits.Add64" = none ∧ Extern.allTypedRows.lookup "math/bits.Add64" = none ∧
    Extern.allRows.lookup "math/bits.Add64" = some add64Entry ∧ Extern.allNextRows.lookup "math/bits.Add64" = none :=
  ⟨by kernel_rfl, by kernel_rfl, by kernel_rfl, by kernel_rfl⟩

theorem next_empty : Extern.allNextRows.lookup "" = none := by kernel_rfl

theorem find_of {fn : Func} {n : String} {e : Array Value → Sem Value} (hn : fn.name = n)
    (h : Extern.allGenericRows.lookup n = none ∧ Extern.allTypedRows.lookup n = none ∧ Extern.allRows.lookup n = some e ∧ Extern.allNextRows.lookup n = none) (ho : fn.origin = "") :
    Extern.find fn = some e ∧ Extern.findNext fn = none := by
  obtain ⟨h1, h2, h3, h4⟩ := h
  constructor
  · unfold Extern.find
    simp only [hn, h1, h2, h3]
    rfl
  · unfold Extern.findNext
    simp only [hn, h4, ho, next_empty]
    rfl

theorem extern_run {f : FuncId} {fn : Func} {args : List AV} {us : List Value} {v : AV} (hf : P.funcs[f]? = some fn) (hb : fn.body = none) (hnm : (fn.name == "runtime.NumGoroutine") = false)
    (ho : fn.origin = "") (h : extern fn.name args = some v) (hu : VRels ρ args us) : ∃ u, (callFunc f us.toArray).run P w = .ok (.value u) w ∧ VRel ρ v u := by
  unfold extern at h
  split at h
  · rename_i s c
    split at h
    · rename_i hn
      simp only [Option.some.injEq] at h; subst h
      obtain ⟨u1, u2, rfl, h1, h2⟩ := VRels.two hu
      obtain ⟨h3, h4⟩ := find_of (by simpa using hn) find_index ho
      rw [str_rel h1, int_rel h2]
      have hl : Extern.BytealgIndexByte.indexByte #[.string s, .int .u8 c] = Extern.BytealgIndexByte.indexByte #[.string s, .int .u8 c] := rfl
      rw [run_callFunc_extern hf hnm (by simp [hb]) h4 h3]
      have := Lib.run_indexByteString (P := P) s c w
      rw [show [Value.string s, Value.int .u8 c].toArray = #[.string s, .int .u8 c] from rfl, this]
      refine ⟨_, rfl, ?_⟩
      simp only [VRel]
      refine ⟨trivial, ?_⟩
      rw [idxByte_eq]
      have hge := Lib.indexByte_ge s.data.toList (c.toNat.toUInt8)
      show (if Lib.indexByte s.data.toList c.toNat.toUInt8 = -1 then -1 else Lib.indexByte s.data.toList c.toNat.toUInt8 + ((0 : Nat) : Int)) = _
      split <;> omega
    · cases h
  · rename_i x y c
    split at h
    · rename_i hn
      simp only [Option.some.injEq] at h; subst h
      simp only [Bool.and_eq_true, decide_eq_true_eq] at hn
      obtain ⟨⟨⟨⟨hn, hx⟩, hy⟩, hc0⟩, hc1⟩ := hn
      cases us with
      | nil => simp [VRels] at hu
      | cons u1 us =>
        simp only [VRels] at hu
        obtain ⟨h1, hu⟩ := hu
        obtain ⟨u2, u3, rfl, h2, h5⟩ := VRels.two hu
        obtain ⟨h3, h4⟩ := find_of (by simpa using hn) find_add ho
        rw [int_rel h1, int_rel h2, int_rel h5]
        rw [run_callFunc_extern hf hnm (by simp [hb]) h4 h3]
        rw [show [Value.int .u64 x, Value.int .u64 y, Value.int .u64 c].toArray = #[.int .u64 x, .int .u64 y, .int .u64 c] from rfl, run_add64 x y c hx hy hc0 hc1]
        exact ⟨_, rfl, by simp [VRel, VRels]⟩
    · cases h
  · cases h

theorem callFunc_enter {f : FuncId} {fn : Func} {c : Code} (hf : P.funcs[f]? = some fn) (hb : fn.body = some c) (hnm : (fn.name == "runtime.NumGoroutine") = false) (args : Array Value) :
    (callFunc f args).run P w = .ok (.enter f args) w := by
  have h1 : fn.name ≠ "runtime.NumGoroutine" := by simpa using hnm
  simp [callFunc, hf, hb, h1]

/-- What is told of a function holds. -/
def SpecOk [Base] (P : Program) (X : Spec) : Prop :=
  ∀ f g, X f = some g → ∀ vs H v H', g vs H = some (v, H') → ∀ ρ w us, Rel P ρ H w → VRels ρ vs us →
    (callFunc f us.toArray).run P w = .ok (.enter f us.toArray) w ∧ Calls P f us.toArray w (Post P ρ H w v H')

theorem callN_sound [Base] {X : Spec} (hX : SpecOk P X) (hP : ProgOk P D) (hD : ∀ callF, CallOk P callF → DrawOk P D callF) : ∀ n, CallOk P (callN P X n false) ∧ DCallOk P (callN P X n true) ∧ LoopOk P D (loopN P X n) := by
  intro n
  induction n with
  | zero =>
    refine ⟨?_, ?_, ?_⟩
    · intro f vs H v H' h; simp [callN] at h
    · intro f vs H v H' h; simp [callN] at h
    · intro b s x s' _ h; simp [loopN] at h
  | succ n ih =>
    obtain ⟨ihC, ihD, ihL⟩ := ih
    refine ⟨?_, ?_, ?_⟩
    · intro f vs H v H' h ρ w us hr hu
      simp only [callN] at h
      split at h
      · rename_i g hg
        exact .inl (hX f g hg vs H v H' (by simpa using h) ρ w us hr hu)
      simp only [Option.bind_eq_some_iff] at h
      obtain ⟨fn, hf, h⟩ := h
      split at h
      · rename_i hb
        simp only [Bool.false_eq_true, if_false, Option.map_eq_some_iff, Prod.mk.injEq] at h
        obtain ⟨_, h, rfl, rfl⟩ := h
        obtain ⟨u, h1, h2⟩ := extern_run (w := w) hf hb (hP.names f fn hf) (hP.origins f fn hf hb) h hu
        exact .inr ⟨u, h1, h2, rfl⟩
      · rename_i c hb
        refine .inl ⟨callFunc_enter hf hb (hP.names f fn hf) _, ?_⟩
        simp only [Option.bind_eq_some_iff] at h
        obtain ⟨⟨x, s1⟩, hc, h⟩ := h
        refine calls_of_wp_defers hf hb (wp_mono (execCode_wp ihC ihL (hD _ ihC) c _ x s1 ρ _ w (hP.draws f fn c hf hb) hc hr (FRel.start hu fn.ntmps H)) ?_)
        rintro e a' w' ⟨rfl, ρ', hr', hf', hst⟩
        have key : ∀ h' : ((runDefers (callN P X n true) s1.ds s1.H).bind fun H => (readResults P s1 H fn.results.toList).bind fun vs => some (oneOf vs, H)) = some (v, H'),
            Leaves P fn a'.tmps (Post P ρ H w v H') a'.defers .returning w' := by
          intro h
          simp only [Option.bind_eq_some_iff] at h
          obtain ⟨H1, hd, vs', hvs, h⟩ := h
          have hv : oneOf vs' = v ∧ H1 = H' := by simpa using h
          obtain ⟨rfl, rfl⟩ := hv
          refine runDefers_leaves ihD s1.ds a'.defers s1.H H1 ρ' w' hf'.ds hd hr' ?_
          intro ρ'' w'' h1 h2
          obtain ⟨u, h3, h4⟩ := results_run h1 (hf'.mono h2.ext) hvs
          exact ⟨u, h3, ρ'', h4, h1, hst.trans h2⟩
        cases x with
        | exit _ => cases h
        | normal => exact key (by simpa using h)
        | ret => exact key (by simpa using h)
    · intro f vs H v H' h ρ w us hr hu
      simp only [callN] at h
      split at h
      · simp at h
      simp only [Option.bind_eq_some_iff] at h
      obtain ⟨fn, hf, h⟩ := h
      split at h
      · simp at h
      · rename_i c hb
        refine ⟨callFunc_enter hf hb (hP.names f fn hf) _, fun u => ?_⟩
        simp only [Option.bind_eq_some_iff] at h
        obtain ⟨⟨x, s1⟩, hc, h⟩ := h
        refine callsD_of_wp hf hb (wp_mono (execCode_wp ihC ihL (hD _ ihC) c _ x s1 ρ _ w (hP.draws f fn c hf hb) hc hr (FRel.start hu fn.ntmps H)) ?_)
        rintro e a' w' ⟨rfl, ρ', hr', hf', hst⟩
        have key : ∀ h' : (if true && !s1.ds.isEmpty then none else (runDefers (callN P X n true) s1.ds s1.H).bind fun H => (readResults P s1 H fn.results.toList).bind fun vs => some (oneOf vs, H)) = some (v, H'),
            a'.defers = [] ∧ ∃ u, (results fn a'.tmps).run P w' = .ok u w' ∧ Post P ρ H w v H' (.returned u) w' := by
          intro h
          split at h
          · cases h
          · rename_i hds
            have hnil : s1.ds = [] := by simpa using hds
            have hfd := hf'.ds
            rw [hnil] at hfd
            have hxs : a'.defers = [] := by cases hx : a'.defers with | nil => rfl | cons _ _ => rw [hx] at hfd; simp [DefsOk] at hfd
            simp only [hnil, runDefers, Option.bind_some, Option.bind_eq_some_iff] at h
            obtain ⟨vs', hvs, h⟩ := h
            have hv : oneOf vs' = v ∧ s1.H = H' := by simpa using h
            obtain ⟨rfl, rfl⟩ := hv
            obtain ⟨u, h3, h4⟩ := results_run hr' hf' hvs
            exact ⟨hxs, u, h3, ρ', h4, hr', hst⟩
        cases x with
        | exit _ => cases h
        | normal => exact key (by simpa using h)
        | ret => exact key (by simpa using h)
    · intro b s x s' hb h ρ a w hr hf
      simp only [loopN, Option.bind_eq_some_iff] at h
      obtain ⟨⟨x1, s1⟩, h1, h⟩ := h
      refine LoopWp.round (wp_mono (execCode_wp ihC ihL (hD _ ihC) b s x1 s1 ρ a w hb h1 hr hf) ?_)
      rintro e a' w' ⟨rfl, ρ', hr', hf', hst⟩
      cases x1 with
      | normal =>
        simp only [AExit.toExit, Exit.then]
        exact (ihL b s1 x s' hb h ρ' a' w' hr' hf').mono (fun e a w k => Fin.trans hst k)
      | exit id =>
        simp only [Option.some.injEq, Prod.mk.injEq] at h
        obtain ⟨rfl, rfl⟩ := h
        exact ⟨rfl, ρ', hr', hf', hst⟩
      | ret =>
        simp only [Option.some.injEq, Prod.mk.injEq] at h
        obtain ⟨rfl, rfl⟩ := h
        exact ⟨rfl, ρ', hr', hf', hst⟩
end
end AE
