/- The abstract evaluator: frames, calls, single operations of a region. Conditions: none. -/
import Derived.Test.YtandggoanbdjkaaGreatDoorWAEOps9
import Derived.Defers
import Derived.Laws.Externs
import Derived.KernelRfl
import Derived.Scope
namespace AE
open Go

section
variable {P : Program} {ρ : Ren} {H : Heap} {w : World} {s : St} {a : Act}

/-- what is seen of some temporaries -/
def Looks (ρ : Ren) (s : St) (a : Act) (ts : List Tmp) : Prop := ∀ t ∈ ts, VRel ρ (s.tmp t) (a.tmps.getD t undef)

def tmpsOf (os : List Operand) : List Tmp := os.filterMap fun | .tmp t => some t | _ => none

theorem Looks.sees {os : List Operand} (h : Looks ρ s a (tmpsOf os)) : Sees ρ s a os := by
  intro x hx v hv
  cases x with
  | tmp t =>
    simp only [St.eval, Option.some.injEq] at hv; subst hv
    exact h t (by simp only [tmpsOf, List.mem_filterMap]; exact ⟨.tmp t, hx, rfl⟩)
  | const c => simp only [St.eval] at hv; exact ofVal_rel ρ c v hv
  | global g => simp only [St.eval, Option.some.injEq] at hv; subst hv; simp [Act.eval, VRel]
  | func f => simp only [St.eval, Option.some.injEq] at hv; subst hv; simp [Act.eval, VRel, VRels]

theorem Looks.mono {ρ' : Ren} {ts : List Tmp} (h : Looks ρ s a ts) (hl : ρ.le ρ') : Looks ρ' s a ts := fun t ht => VRel.mono hl _ _ (h t ht)
theorem Looks.sub {ts ts' : List Tmp} (h : Looks ρ s a ts) (hl : ∀ t ∈ ts', t ∈ ts) : Looks ρ s a ts' := fun t ht => h t (hl t ht)

/-! ### what a call enters -/

/-- a deferred call, and what it stands for -/
def DefOk (P : Program) (ρ : Ren) (d : FuncId × List AV) (x : Deferred) : Prop :=
  ∃ us, VRels ρ d.2 us ∧ (∃ fv cap, x.target = .fn fv cap) ∧ ∀ w, (invoke x.target x.args).run P w = (callFunc d.1 us.toArray).run P w

theorem method_run {t : TypeId} {v x : AV} {u : Value} {name : String} {f : FuncId} {k : Nat} (_ : VRel ρ v u) (h : method P t v name = some (f, x)) :
    (Go.method (k + 1) t u name).run P w = .ok (f, u) w ∧ x = v := by
  unfold method at h
  simp only [Option.bind_eq_some_iff] at h
  obtain ⟨i, hi, m, hm, h⟩ := h
  split at h
  · rename_i hp
    simp only [Option.bind_eq_some_iff] at h
    obtain ⟨⟨g, ptr⟩, hf, h⟩ := h
    have hpl : m.path.toList = [] := by have := Array.isEmpty_iff.1 hp; rw [this]
    have hfind : i.methods.find? (fun x => x.name == name) = some m := hm
    split at h
    · rename_i e hu hptr
      dsimp only at hptr
      subst hptr
      simp only [Option.some.injEq, Prod.mk.injEq] at h
      obtain ⟨rfl, rfl⟩ := h
      exact ⟨by simp [Go.method, typeInfo, hi, hfind, hpl, follow, hf, receiverAt, run_underlying hu, Place.get], rfl⟩
    · cases h
    · rename_i d hd hu hptr
      dsimp only at hptr
      subst hptr
      simp only [Option.some.injEq, Prod.mk.injEq] at h
      obtain ⟨rfl, rfl⟩ := h
      refine ⟨?_, rfl⟩
      cases d <;> first
        | (exact (hd _ rfl).elim)
        | (simp [Go.method, typeInfo, hi, hfind, hpl, follow, hf, receiverAt, run_underlying hu, Place.get]; done)
    · cases h
  · cases h

theorem target_run {c : Call} {f : FuncId} {vs : List AV} (hs : Sees ρ s a c.operands.toList) (h : target P s c = some (f, vs)) :
    ∃ d, (∀ w ty, (resolve a.eval c ty).run P w = .ok d w) ∧ DefOk P ρ (f, vs) d := by
  obtain ⟨callee, args, ats⟩ := c
  unfold target at h
  simp only [Option.bind_eq_some_iff] at h
  obtain ⟨xs, hxs, h⟩ := h
  cases callee with
  | builtin b => cases h
  | value fo =>
    simp only [Option.bind_eq_some_iff] at h
    obtain ⟨fv, hfv, h⟩ := h
    have hf := hs fo (by simp [Call.operands]) fv hfv
    have hx := evals_rel args.toList xs (hs.sub fun x hx => by simp [Call.operands] at hx ⊢; exact .inr hx) hxs
    split at h
    · rename_i g first cap
      simp only [Option.some.injEq, Prod.mk.injEq] at h
      obtain ⟨rfl, rfl⟩ := h
      cases hv : a.eval fo with
      | func fn first' cap' =>
        rw [hv] at hf
        simp only [VRel] at hf
        obtain ⟨rfl, h1, h2⟩ := hf
        refine ⟨{ target := .fn (.func g) cap', args := first' ++ args.map a.eval }, fun w ty => by simp [resolve, Deferred.ofValue, hv], first'.toList ++ args.toList.map a.eval ++ cap'.toList, ?_, ⟨_, _, rfl⟩, fun w => ?_⟩
        · exact VRels.append _ _ _ _ (VRels.append _ _ _ _ h1 hx) h2
        · have he : (first'.toList ++ args.toList.map a.eval ++ cap'.toList).toArray = first' ++ args.map a.eval ++ cap' := by apply Array.ext'; simp
          simp only [invoke, he]
      | _ => rw [hv] at hf; simp [VRel] at hf
    · cases h
  | invoke r name =>
    simp only [Option.bind_eq_some_iff] at h
    obtain ⟨rv, hrv, h⟩ := h
    have hr := hs r (by simp [Call.operands]) rv hrv
    have hx := evals_rel args.toList xs (hs.sub fun x hx => by simp [Call.operands] at hx ⊢; exact .inr hx) hxs
    split at h
    · rename_i t v
      simp only [Option.bind_eq_some_iff] at h
      obtain ⟨⟨g, x⟩, hm, h⟩ := h
      simp only [Option.some.injEq, Prod.mk.injEq] at h
      obtain ⟨rfl, rfl⟩ := h
      cases hv : a.eval r with
      | iface t' v' =>
        rw [hv] at hr
        simp only [VRel] at hr
        obtain ⟨rfl, hvv⟩ := hr
        have hk : ∃ k, P.types.size + Made.depth = k + 1 := ⟨P.types.size + (Made.depth - 1), by simp only [Made.depth]⟩
        obtain ⟨k, hk⟩ := hk
        have hmr := fun w => method_run (w := w) (k := k) hvv hm
        obtain rfl := (hmr default).2
        refine ⟨{ target := .fn (.method name) #[], args := #[.iface t v'] ++ args.map a.eval }, fun w ty => by simp [resolve, hv], v' :: args.toList.map a.eval, ?_, ⟨_, _, rfl⟩, fun w => ?_⟩
        · simp only [VRels]; exact ⟨hvv, hx⟩
        · have he : (#[Value.iface t v'] ++ args.map a.eval).extract 1 (#[Value.iface t v'] ++ args.map a.eval).size = args.map a.eval := by
            apply Array.ext'
            simp [List.take_of_length_le]
          have he2 : (v' :: args.toList.map a.eval).toArray = #[v'] ++ args.map a.eval := by apply Array.ext'; simp
          have hp : (program).run P w = .ok P w := rfl
          have h0 : (#[Value.iface t v'] ++ args.map a.eval)[0]? = some (.iface t v') := by rw [Array.getElem?_append_left (by simp)]; rfl
          simp only [invoke, h0, callMethod, Sem.run_bind, hp, Result.andThen_ok, hk, (hmr w).1, he, he2]
      | _ => rw [hv] at hr; simp [VRel] at hr
    · cases h
end
end AE
/- The abstract evaluator: frames, single operations and regions in the order of the text. Conditions: none. -/
namespace AE
open Go

section
variable {P : Program} {ρ : Ren} {H : Heap} {w : World} {s : St} {a : Act} {callF : CallF}

def DefsOk (P : Program) (ρ : Ren) : List (FuncId × List AV) → List Deferred → Prop
  | [], [] => True
  | d :: ds, x :: xs => DefOk P ρ d x ∧ DefsOk P ρ ds xs
  | _, _ => False

theorem DefOk.mono {ρ' : Ren} (hl : ρ.le ρ') {d : FuncId × List AV} {x : Deferred} (h : DefOk P ρ d x) : DefOk P ρ' d x := by
  obtain ⟨us, h1, h2, h3⟩ := h
  exact ⟨us, VRels.mono hl _ _ h1, h2, h3⟩

theorem DefsOk.mono {ρ' : Ren} (hl : ρ.le ρ') : ∀ {ds : List (FuncId × List AV)} {xs : List Deferred}, DefsOk P ρ ds xs → DefsOk P ρ' ds xs
  | [], [], _ => trivial
  | [], _ :: _, h => by simp [DefsOk] at h
  | _ :: _, [], h => by simp [DefsOk] at h
  | _ :: _, _ :: _, h => by simp only [DefsOk] at *; exact ⟨h.1.mono hl, DefsOk.mono hl h.2⟩

/-- A frame of the abstract evaluator, and the model's. -/
structure FRel (P : Program) (ρ : Ren) (s : St) (a : Act) : Prop where
  tmps : ∀ t, VRel ρ (s.tmp t) (a.tmps.getD t undef)
  n : s.n = a.tmps.size
  ds : DefsOk P ρ s.ds a.defers

theorem FRel.mono {ρ' : Ren} (h : FRel P ρ s a) (hl : ρ.le ρ') : FRel P ρ' s a := ⟨fun t => VRel.mono hl _ _ (h.tmps t), h.n, h.ds.mono hl⟩
theorem FRel.looks (h : FRel P ρ s a) (ts : List Tmp) : Looks ρ s a ts := fun t _ => h.tmps t
theorem FRel.sees (h : FRel P ρ s a) (os : List Operand) : Sees ρ s a os := (h.looks _).sees

theorem undef_rel : VRel ρ AV.undef Go.undef := by simp [AV.undef, Go.undef, VRel, VRels]

theorem tmp_set (s : St) (dst : Option Nat) (v : AV) (t : Nat) : (s.set dst v).tmp t = if dst = some t ∧ t < s.n then v else s.tmp t := by
  cases dst with
  | none => simp [St.set]
  | some d =>
    simp only [St.set, Option.some.injEq]
    by_cases h : d < s.n
    · rw [if_pos h]
      simp only [St.tmp, Tr.get_put]
      by_cases e : t = d
      · subst e; simp [h]
      · rw [if_neg e, if_neg (fun c => e c.1.symm)]
    · rw [if_neg h]
      by_cases e : d = t
      · subst e; simp [h]
      · rw [if_neg (fun c => e c.1)]

theorem tmps_put (a : Act) (dst : Option Nat) (u : Value) (t : Nat) : (a.put dst u).tmps.getD t undef = if dst = some t ∧ t < a.tmps.size then u else a.tmps.getD t undef := by
  cases dst with
  | none => simp [Act.put]
  | some d =>
    simp only [Act.put, Option.some.injEq, Array.getD_eq_getD_getElem?, Array.getElem?_setIfInBounds]
    by_cases e : d = t
    · subst e
      by_cases h : d < a.tmps.size
      · simp [h]
      · simp [h]
    · simp [e]

theorem put_size (a : Act) (dst : Option Nat) (u : Value) : (a.put dst u).tmps.size = a.tmps.size := by cases dst <;> simp [Act.put]
theorem set_n (s : St) (dst : Option Nat) (v : AV) : (s.set dst v).n = s.n := by
  cases dst with
  | none => rfl
  | some d => simp only [St.set]; split <;> rfl
theorem set_H (s : St) (dst : Option Nat) (v : AV) : (s.set dst v).H = s.H := by
  cases dst with
  | none => rfl
  | some d => simp only [St.set]; split <;> rfl
theorem set_ds (s : St) (dst : Option Nat) (v : AV) : (s.set dst v).ds = s.ds := by
  cases dst with
  | none => rfl
  | some d => simp only [St.set]; split <;> rfl
theorem put_defers (a : Act) (dst : Option Nat) (u : Value) : (a.put dst u).defers = a.defers := by cases dst <;> rfl

theorem FRel.put {H' : Heap} (h : FRel P ρ s a) (dst : Option Nat) {v : AV} {u : Value} (hv : VRel ρ v u) : FRel P ρ ({ s with H := H' }.set dst v) (a.put dst u) := by
  refine ⟨fun t => ?_, ?_, ?_⟩
  · rw [tmp_set, tmps_put]
    have hn := h.n
    by_cases c : dst = some t ∧ t < s.n
    · rw [if_pos c, if_pos ⟨c.1, by omega⟩]; exact hv
    · rw [if_neg c, if_neg (fun d => c ⟨d.1, by omega⟩)]; exact h.tmps t
  · rw [set_n, put_size]; exact h.n
  · rw [set_ds, put_defers]; exact h.ds

/-- how a call ends -/
def Post [Base] (P : Program) (ρ : Ren) (H : Heap) (w : World) (v : AV) (H' : Heap) : Ending → World → Prop
  | .returned u, w' => ∃ ρ', VRel ρ' v u ∧ Rel P ρ' H' w' ∧ Step none ρ H w ρ' H' w'
  | _, _ => False

/-- calls do what the abstract evaluator says -/
def CallOk [Base] (P : Program) (callF : CallF) : Prop :=
  ∀ f vs H v H', callF f vs H = some (v, H') → ∀ ρ w us, Rel P ρ H w → VRels ρ vs us →
    ((callFunc f us.toArray).run P w = .ok (.enter f us.toArray) w ∧ Calls P f us.toArray w (Post P ρ H w v H')) ∨
    (∃ u, (callFunc f us.toArray).run P w = .ok (.value u) w ∧ VRel ρ v u ∧ H' = H)

/-- how an operation of a region goes on -/
def Goes [Base] (P : Program) (at_ : Option Nat) (ρ : Ren) (s : St) (a : Act) (w : World) (dst : Option Nat) (s' : St) (next : Act → World → Prop) : Prop :=
  ∀ ρ' w' v u df, s' = ({ s with H := s'.H, ds := s'.ds }).set dst v → VRel ρ' v u → Rel P ρ' s'.H w' → Step at_ ρ s.H w ρ' s'.H w' →
    ((s'.ds = s.ds ∧ df = a.defers) ∨ (∃ d x, s'.ds = d :: s.ds ∧ df = x :: a.defers ∧ DefOk P ρ' d x)) → next (({ a with defers := df } : Act).put dst u) w'

theorem local_wp [Base] (hr : Rel P ρ s.H w) {o : Oper} {at_ : Option Nat} {s' : St} {next : Act → World → Prop} {Q : Exit → Act → World → Prop} (hs : Sees ρ s a o.op.operands.toList)
    (hat : ∀ i, at_ = some i → ρ i = none) (h : ((opLocal P s at_ o.op).bind fun (v, H) => some ({ s with H := H }.set o.dst v)) = some s') (hn : Goes P at_ ρ s a w o.dst s' next) : o.wp P a w next Q := by
  simp only [Option.bind_eq_some_iff] at h
  obtain ⟨⟨v, H'⟩, h, he⟩ := h
  simp only [Option.some.injEq] at he
  subst he
  obtain ⟨ρ', w', u, h1, h2, h3, h4⟩ := opLocal_run hr hs hat h
  have key := hn ρ' w' v u a.defers (by rw [set_H, set_ds]) h2 (by rw [set_H]; exact h3) (by rw [set_H]; exact h4) (.inl ⟨by rw [set_ds], rfl⟩)
  unfold Oper.wp
  rcases h1 with h1 | ⟨h1, rfl⟩
  · rw [h1]; exact key
  · rw [h1]; exact key

theorem execOper_wp [Base] (hC : CallOk P callF) (hr : Rel P ρ s.H w) {o : Oper} {at_ : Option Nat} {s' : St} {next : Act → World → Prop} {Q : Exit → Act → World → Prop} (hs : Sees ρ s a o.op.operands.toList)
    (hat : ∀ i, at_ = some i → ρ i = none) (h : execOper P callF s at_ o = some s') (hn : Goes P at_ ρ s a w o.dst s' next) : o.wp P a w next Q := by
  unfold execOper at h
  split at h
  · rename_i c hc
    split at h
    · exact local_wp hr hs hat h hn
    · simp only [Option.bind_eq_some_iff] at h
      obtain ⟨⟨f, vs⟩, ht, ⟨v, H'⟩, hcall, he⟩ := h
      simp only [Option.some.injEq] at he
      subst he
      obtain ⟨d, hres, us, hus, _, hinv⟩ := target_run (hs.sub fun x hx => by rw [hc]; exact hx) ht
      have hrun : (execOp a.eval o).run P w = (callFunc f us.toArray).run P w := by
        simp only [execOp, hc, Sem.run_bind, hres, Result.andThen_ok, hinv]
      unfold Oper.wp
      rw [hrun]
      rcases hC f vs s.H v H' hcall ρ w us hr hus with ⟨h1, h2⟩ | ⟨u, h1, h2, rfl⟩
      · rw [h1, Oper.upon_enter]
        refine h2.mono fun e w' he => ?_
        cases e with
        | returned u =>
          obtain ⟨ρ', h3, h4, h5⟩ := he
          exact hn ρ' w' v u a.defers (by rw [set_H, set_ds]) h3 (by rw [set_H]; exact h4) (by rw [set_H]; exact h5.weaken) (.inl ⟨by rw [set_ds], rfl⟩)
        | panicked _ => exact he.elim
        | outgrown => exact he.elim
      · rw [h1]
        exact hn ρ w v u a.defers (by rw [set_H, set_ds]) h2 (by rw [set_H]; exact hr) (by rw [set_H]; exact Step.refl ..) (.inl ⟨by rw [set_ds], rfl⟩)
  · rename_i c hc
    simp only [Option.bind_eq_some_iff] at h
    obtain ⟨d, ht, he⟩ := h
    simp only [Option.some.injEq] at he
    subst he
    obtain ⟨x, hres, hd⟩ := target_run (hs.sub fun x hx => by rw [hc]; exact hx) ht
    have hrun : (execOp a.eval o).run P w = .ok (.defer x) w := by
      simp only [execOp, hc, Sem.run_bind, hres, Result.andThen_ok, Sem.run_pure]
    unfold Oper.wp
    rw [hrun, Oper.upon_defer]
    exact hn ρ w .undef undef (x :: a.defers) (by rw [set_H, set_ds]) undef_rel (by rw [set_H]; exact hr) (by rw [set_H]; exact Step.refl ..) (.inr ⟨d, x, by rw [set_ds], rfl, hd⟩)
  · exact local_wp hr hs hat h hn

theorem wanted_run {ops : Array Oper} {o : Oper} {b : Bool} (hl : Looks ρ s a (match o.guard with | some (g, _) => ((ops[g]?).bind (·.dst)).toList | none => []))
    (h : wanted s ops o = some b) : Region.wanted o (yielded ops a.tmps) = b := by
  unfold wanted at h
  unfold Region.wanted
  split at h
  · rename_i hg
    simp only [Option.some.injEq] at h; subst h
    simp [hg]
  · rename_i j want hg
    simp only [hg] at hl ⊢
    split at h
    · rename_i t ht
      rw [ht] at hl
      have hv := hl t (by simp)
      have hy : yielded ops a.tmps j = match a.tmps.getD t undef with | .bool b => some b | _ => none := by
        unfold yielded
        rw [ht]
        simp only [Option.bind_some, Array.getD_eq_getD_getElem?]
        cases a.tmps[t]? with
        | none => simp [undef]
        | some x => cases x <;> rfl
      rw [hy]
      split at h
      · rename_i b' hb
        simp only [Option.some.injEq] at h; subst h
        have : s.tmp t = .bool b' := by simp [St.tmp, hb]
        rw [this] at hv
        rw [bool_rel hv]
        rfl
      · cases h
      · rename_i hb htop
        simp only [Option.some.injEq] at h; subst h
        cases hu : a.tmps.getD t undef <;> try rfl
        rename_i b'
        exfalso
        rw [hu] at hv
        cases hx : s.T.get t with
        | none => simp [St.tmp, hx, AV.undef, VRel] at hv
        | some x =>
          simp only [St.tmp, hx, Option.getD_some] at hv
          cases x <;> simp [VRel] at hv
          · exact hb _ hx
          · exact htop hx
    · rename_i ht
      simp only [Option.some.injEq] at h; subst h
      have : yielded ops a.tmps j = none := by unfold yielded; rw [ht]; rfl
      rw [this]; rfl

/-- how the rest of a region goes on in the order of the text -/
theorem execOps_wp [Base] (hC : CallOk P callF) {ops : Array Oper} {Q : Exit → Act → World → Prop} (l : List Nat) : ∀ (s : St) (a : Act) (w : World) (ρ : Ren) (os : List Oper) (s' : St), l.map (fun i => ops[i]?) = os.map some →
    execOps P callF ops os s = some s' → Rel P ρ s.H w → FRel P ρ s a → (∀ ρ' a' w', Rel P ρ' s'.H w' → FRel P ρ' s' a' → Step none ρ s.H w ρ' s'.H w' → Q .normal a' w') → wpOps P ops Q l a w := by
  induction l with
  | nil =>
    intro s a w ρ os s' hl h hr hf hq
    cases os with
    | nil =>
      simp only [execOps, Option.some.injEq] at h; subst h
      exact hq ρ a w hr hf (Step.refl ..)
    | cons _ _ => simp at hl
  | cons i l ih =>
    intro s a w ρ os s' hl h hr hf hq
    cases os with
    | nil => simp at hl
    | cons o os =>
      simp only [List.map_cons, List.cons.injEq] at hl
      obtain ⟨ho, hl⟩ := hl
      simp only [execOps, Option.bind_eq_some_iff] at h
      obtain ⟨s1, h1, h2⟩ := h
      unfold execW at h1
      simp only [Option.bind_eq_some_iff] at h1
      obtain ⟨b, hb, h1⟩ := h1
      have hwant := wanted_run (ops := ops) (o := o) (hf.looks _) hb
      simp only [wpOps, ho, hwant]
      cases b with
      | true =>
        simp only [if_true]
        refine .inl (execOper_wp hC hr (hf.sees _) (fun i hi => by cases hi) h1 ?_)
        intro ρ' w' v u df hs' hv hr' hst hdf
        refine ih s1 _ w' ρ' os s' hl h2 hr' ?_ (fun ρ'' a'' w'' hr'' hf'' hst'' => hq ρ'' a'' w'' hr'' hf'' (hst.trans hst''))
        rw [hs']
        have hf1 := hf.mono hst.ext
        have hf2 : FRel P ρ' { s with H := s1.H, ds := s1.ds } { a with defers := df } := by
          refine ⟨hf1.tmps, hf1.n, ?_⟩
          rcases hdf with ⟨e1, e2⟩ | ⟨d, x, e1, e2, hd⟩
          · rw [e2]; simp only; rw [e1]; exact hf1.ds
          · rw [e2]; simp only; rw [e1]; exact ⟨hd, hf1.ds⟩
        exact hf2.put (H' := s1.H) o.dst hv
      | false =>
        simp only [Option.some.injEq] at h1; subst h1
        simp only [Bool.false_eq_true, if_false]
        refine ih _ _ w ρ os s' hl h2 (by rw [set_H]; exact hr) (hf.put (H' := s.H) o.dst undef_rel) (fun ρ'' a'' w'' hr'' hf'' hst'' => hq ρ'' a'' w'' hr'' hf'' (by rw [set_H] at hst''; exact hst''))
end
end AE

/- The abstract evaluator: code and calls. Conditions: none. -/
namespace AE
open Go

/-- are the regions fine that draw? -/
def Draws (D : Array Oper → Bool) : Code → Bool
  | .region _ ops draw => !draw || D ops
  | .seq a b => Draws D a && Draws D b
  | .cond _ a b => Draws D a && Draws D b
  | .block _ b | .scope b | .loop b => Draws D b
  | _ => true

section
variable {P : Program} {ρ : Ren} {H : Heap} {w : World} {s : St} {a : Act} {callF : CallF} {D : Array Oper → Bool}

def AExit.toExit : AExit → Exit
  | .normal => .normal
  | .exit id => .exit id
  | .ret => .ret

/-- how a piece of code ends -/
def Fin [Base] (P : Program) (ρ : Ren) (H : Heap) (w : World) (x : AExit) (s' : St) (e : Exit) (a' : Act) (w' : World) : Prop :=
  e = x.toExit ∧ ∃ ρ', Rel P ρ' s'.H w' ∧ FRel P ρ' s' a' ∧ Step none ρ H w ρ' s'.H w'

/-- the rest of a loop, before a round -/
def LoopWp (P : Program) (c : Code) (Q : Exit → Act → World → Prop) (a : Act) (w : World) : Prop :=
  ∀ (b : Frame) (k : List Item) (cs : List Frame), ∃ e a' w', Q e a' w' ∧ Arrives P (lone (b.at a (.code c :: .inLoop c :: k)) cs w) b k cs e a' w'

theorem LoopWp.start {c : Code} {Q : Exit → Act → World → Prop} (h : LoopWp P c Q a w) : (Code.loop c).wp P Q a w := by
  intro b k cs
  obtain ⟨e, a', w', hq, harr⟩ := h b k cs
  exact ⟨e, a', w', hq, .of_steps (.one step_loop) harr⟩

theorem LoopWp.round {c : Code} {Q : Exit → Act → World → Prop} (h : c.wp P (Exit.then (LoopWp P c Q) Q) a w) : LoopWp P c Q a w := by
  intro b k cs
  obtain ⟨e, a₁, w₁, hq, harr⟩ := h b (.inLoop c :: k) cs
  cases e with
  | normal =>
    obtain ⟨e₂, a₂, w₂, hq₂, harr₂⟩ := hq b k cs
    exact ⟨e₂, a₂, w₂, hq₂, .of_steps (Steps.trans harr (.one step_inLoop)) harr₂⟩
  | exit id => exact ⟨_, a₁, w₁, hq, .pass (x := .inLoop c) rfl (fun _ _ => .inl (by simp)) harr⟩
  | goto l => exact ⟨_, a₁, w₁, hq, .pass (x := .inLoop c) rfl (fun _ _ => .inl (by simp)) harr⟩
  | ret => exact ⟨_, a₁, w₁, hq, .pass (x := .inLoop c) rfl (fun _ _ => .inl (by simp)) harr⟩
  | panic ch => exact ⟨_, a₁, w₁, hq, .pass (x := .inLoop c) rfl (fun _ _ => .inl (by simp)) harr⟩
  | outgrown => exact ⟨_, a₁, w₁, hq, .pass (x := .inLoop c) rfl (fun _ _ => .inl (by simp)) harr⟩

theorem LoopWp.mono {c : Code} {Q Q' : Exit → Act → World → Prop} (h : LoopWp P c Q a w) (hq : ∀ e a w, Q e a w → Q' e a w) : LoopWp P c Q' a w := by
  intro b k cs
  obtain ⟨e, a', w', h1, h2⟩ := h b k cs
  exact ⟨e, a', w', hq _ _ _ h1, h2⟩

def LoopOk [Base] (P : Program) (D : Array Oper → Bool) (loopF : Code → St → Option (AExit × St)) : Prop :=
  ∀ b s x s', Draws D b = true → loopF b s = some (x, s') → ∀ ρ a w, Rel P ρ s.H w → FRel P ρ s a → LoopWp P b (Fin P ρ s.H w x s') a w

def DrawOk [Base] (P : Program) (D : Array Oper → Bool) (callF : CallF) : Prop :=
  ∀ id ops s s', D ops = true → execDraw P callF ops s = some s' → ∀ ρ a w, Rel P ρ s.H w → FRel P ρ s a → (Code.region id ops true).wp P (Fin P ρ s.H w .normal s') a w

theorem Fin.trans [Base] {ρ' : Ren} {H' : Heap} {w' : World} {x : AExit} {s' : St} (h : Step none ρ H w ρ' H' w') {e : Exit} {a' : Act} {w'' : World} (k : Fin P ρ' H' w' x s' e a' w'') :
    Fin P ρ H w x s' e a' w'' := by
  obtain ⟨h1, ρ'', h2, h3, h4⟩ := k
  exact ⟨h1, ρ'', h2, h3, h.trans h4⟩

theorem execCode_wp [Base] (hC : CallOk P callF) {loopF : Code → St → Option (AExit × St)} (hL : LoopOk P D loopF) (hD : DrawOk P D callF) : ∀ (c : Code) (s : St) (x : AExit) (s' : St) (ρ : Ren) (a : Act) (w : World),
    Draws D c = true → execCode P callF loopF c s = some (x, s') → Rel P ρ s.H w → FRel P ρ s a → c.wp P (Fin P ρ s.H w x s') a w := by
  intro c
  induction c with
  | skip =>
    intro s x s' ρ a w _ h hr hf
    simp only [execCode, Option.some.injEq, Prod.mk.injEq] at h
    obtain ⟨rfl, rfl⟩ := h
    exact wp_skip ⟨rfl, ρ, hr, hf, Step.refl ..⟩
  | label l =>
    intro s x s' ρ a w _ h hr hf
    simp only [execCode, Option.some.injEq, Prod.mk.injEq] at h
    obtain ⟨rfl, rfl⟩ := h
    exact wp_label ⟨rfl, ρ, hr, hf, Step.refl ..⟩
  | exit id =>
    intro s x s' ρ a w _ h hr hf
    simp only [execCode, Option.some.injEq, Prod.mk.injEq] at h
    obtain ⟨rfl, rfl⟩ := h
    exact wp_exit ⟨rfl, ρ, hr, hf, Step.refl ..⟩
  | ret =>
    intro s x s' ρ a w _ h hr hf
    simp only [execCode, Option.some.injEq, Prod.mk.injEq] at h
    obtain ⟨rfl, rfl⟩ := h
    exact wp_ret ⟨rfl, ρ, hr, hf, Step.refl ..⟩
  | region id ops draw =>
    intro s x s' ρ a w hd h hr hf
    simp only [execCode, Option.bind_eq_some_iff, Option.some.injEq, Prod.mk.injEq] at h
    obtain ⟨s1, h, rfl, rfl⟩ := h
    cases draw with
    | true =>
      simp only [if_true] at h
      exact hD id ops s s1 (by simpa [Draws] using hd) h ρ a w hr hf
    | false =>
      simp only [Bool.false_eq_true, if_false] at h
      refine wp_region (execOps_wp hC (List.range ops.size) s a w ρ ops.toList s1 ?_ h hr hf (fun ρ' a' w' h1 h2 h3 => ⟨rfl, ρ', h1, h2, h3⟩))
      apply List.ext_getElem?
      intro i
      simp only [List.getElem?_map, Array.getElem?_toList]
      rcases Nat.lt_or_ge i ops.size with hi | hi
      · simp [hi]
      · simp [hi]
  | seq c d ihc ihd =>
    intro s x s' ρ a w hd h hr hf
    simp only [Draws, Bool.and_eq_true] at hd
    simp only [execCode, Option.bind_eq_some_iff] at h
    obtain ⟨⟨x1, s1⟩, h1, h⟩ := h
    refine wp_seq (wp_mono (ihc s x1 s1 ρ a w hd.1 h1 hr hf) ?_)
    rintro e a' w' ⟨rfl, ρ', hr', hf', hst⟩
    cases x1 with
    | normal =>
      simp only [AExit.toExit, Exit.then]
      exact wp_mono (ihd s1 x s' ρ' a' w' hd.2 h hr' hf') (fun e a w k => Fin.trans hst k)
    | exit id =>
      simp only [Option.some.injEq, Prod.mk.injEq] at h
      obtain ⟨rfl, rfl⟩ := h
      exact ⟨rfl, ρ', hr', hf', hst⟩
    | ret =>
      simp only [Option.some.injEq, Prod.mk.injEq] at h
      obtain ⟨rfl, rfl⟩ := h
      exact ⟨rfl, ρ', hr', hf', hst⟩
  | cond o c d ihc ihd =>
    intro s x s' ρ a w hd h hr hf
    simp only [Draws, Bool.and_eq_true] at hd
    simp only [execCode, Option.bind_eq_some_iff] at h
    obtain ⟨v, hv, h⟩ := h
    have ho := hf.sees [o] o (by simp) v hv
    split at h
    · exact wp_cond_true (bool_rel ho) (ihc s x s' ρ a w hd.1 h hr hf)
    · exact wp_cond_false (bool_rel ho) (ihd s x s' ρ a w hd.2 h hr hf)
    · cases h
  | block id c ih =>
    intro s x s' ρ a w hd h hr hf
    simp only [execCode, Option.bind_eq_some_iff] at h
    obtain ⟨⟨x1, s1⟩, h1, h⟩ := h
    refine wp_block (wp_mono (ih s x1 s1 ρ a w hd h1 hr hf) ?_)
    rintro e a' w' ⟨rfl, ρ', hr', hf', hst⟩
    cases x1 with
    | normal =>
      simp only [Option.some.injEq, Prod.mk.injEq] at h
      obtain ⟨rfl, rfl⟩ := h
      exact ⟨rfl, ρ', hr', hf', hst⟩
    | exit id' =>
      dsimp only at h
      simp only [AExit.toExit, Exit.inBlock]
      split at h
      · rename_i he
        simp only [Option.some.injEq, Prod.mk.injEq] at h
        obtain ⟨rfl, rfl⟩ := h
        rw [if_pos he]
        exact ⟨rfl, ρ', hr', hf', hst⟩
      · rename_i he
        simp only [Option.some.injEq, Prod.mk.injEq] at h
        obtain ⟨rfl, rfl⟩ := h
        rw [if_neg he]
        exact ⟨rfl, ρ', hr', hf', hst⟩
    | ret =>
      simp only [Option.some.injEq, Prod.mk.injEq] at h
      obtain ⟨rfl, rfl⟩ := h
      exact ⟨rfl, ρ', hr', hf', hst⟩
  | scope c ih =>
    intro s x s' ρ a w hd h hr hf
    simp only [execCode] at h
    refine wp_scope_straight (wp_mono (ih s x s' ρ a w hd h hr hf) ?_)
    rintro e a' w' ⟨rfl, hz⟩
    cases x <;> exact ⟨rfl, hz⟩
  | loop c ih =>
    intro s x s' ρ a w hd h hr hf
    simp only [execCode] at h
    exact (hL c s x s' hd h ρ a w hr hf).start
  | rangeFunc => intro s x s' ρ a w _ h; simp [execCode] at h
  | goto => intro s x s' ρ a w _ h; simp [execCode] at h
  | refuse => intro s x s' ρ a w _ h; simp [execCode] at h
end
end AE
