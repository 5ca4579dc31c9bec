/- The abstract evaluator: frames, calls, single operations of a region. Conditions: none. -/
import Derived.Test.YtandggoanbdjkaaGreatDoorAEOps11
import Derived.Defers
import Derived.Laws.Externs
import Derived.KernelRfl
namespace AE
open Go

section
variable {P : Program} {ρ : Ren} {H : Heap} {w : World} {s : St} {a : Act}

/-- what is seen of some temporaries -/
def Looks (ρ : Ren) (s : St) (a : Act) (ts : List Tmp) : Prop := ∀ t ∈ ts, VRel ρ (s.tmp t) (a.tmps.getD t undef)

def tmpsOf (os : List Operand) : List Tmp := os.filterMap fun | .tmp t => some t | _ => none

theorem Looks.sees {os : List Operand} (h : Looks ρ s a (tmpsOf os)) : Sees ρ s a os := by
  intro x hx v hv
  cases x with
  | tmp t =>
    simp only [St.eval, Option.some.injEq] at hv; subst hv
    exact h t (by simp only [tmpsOf, List.mem_filterMap]; exact ⟨.tmp t, hx, rfl⟩)
  | const c => simp only [St.eval] at hv; exact ofVal_rel ρ c v hv
  | global g => simp only [St.eval, Option.some.injEq] at hv; subst hv; simp [Act.eval, VRel]
  | func f => simp only [St.eval, Option.some.injEq] at hv; subst hv; simp [Act.eval, VRel, VRels]

theorem Looks.mono {ρ' : Ren} {ts : List Tmp} (h : Looks ρ s a ts) (hl : ρ.le ρ') : Looks ρ' s a ts := fun t ht => VRel.mono hl _ _ (h t ht)
theorem Looks.sub {ts ts' : List Tmp} (h : Looks ρ s a ts) (hl : ∀ t ∈ ts', t ∈ ts) : Looks ρ s a ts' := fun t ht => h t (hl t ht)

/-! ### what a call enters -/

/-- a deferred call, and what it stands for -/
def DefOk (P : Program) (ρ : Ren) (d : FuncId × List AV) (x : Deferred) : Prop :=
  ∃ us, VRels ρ d.2 us ∧ (∃ fv cap, x.target = .fn fv cap) ∧ ∀ w, (invoke x.target x.args).run P w = (callFunc d.1 us.toArray).run P w

theorem method_run {t : TypeId} {v x : AV} {u : Value} {name : String} {f : FuncId} {k : Nat} (hv : VRel ρ v u) (h : method P t v name = some (f, x)) :
    (Go.method (k + 1) t u name).run P w = .ok (f, u) w ∧ x = v := by
  unfold method at h
  simp only [Option.bind_eq_some_iff] at h
  obtain ⟨i, hi, m, hm, h⟩ := h
  split at h
  · rename_i hp
    simp only [Option.bind_eq_some_iff] at h
    obtain ⟨⟨g, ptr⟩, hf, h⟩ := h
    have hpl : m.path.toList = [] := by have := Array.isEmpty_iff.1 hp; rw [this]
    have hfind : i.methods.find? (fun x => x.name == name) = some m := hm
    split at h
    · rename_i e hu hptr
      dsimp only at hptr
      subst hptr
      simp only [Option.some.injEq, Prod.mk.injEq] at h
      obtain ⟨rfl, rfl⟩ := h
      exact ⟨by simp [Go.method, typeInfo, hi, hfind, hpl, follow, hf, receiverAt, run_underlying hu, Place.get], rfl⟩
    · cases h
    · rename_i d hd hu hptr
      dsimp only at hptr
      subst hptr
      simp only [Option.some.injEq, Prod.mk.injEq] at h
      obtain ⟨rfl, rfl⟩ := h
      refine ⟨?_, rfl⟩
      cases d <;> first
        | (exact (hd _ rfl).elim)
        | (simp [Go.method, typeInfo, hi, hfind, hpl, follow, hf, receiverAt, run_underlying hu, Place.get]; done)
    · cases h
  · cases h

theorem target_run {c : Call} {f : FuncId} {vs : List AV} (hs : Sees ρ s a c.operands.toList) (h : target P s c = some (f, vs)) :
    ∃ d, (∀ w ty, (resolve a.eval c ty).run P w = .ok d w) ∧ DefOk P ρ (f, vs) d := by
  obtain ⟨callee, args, ats⟩ := c
  unfold target at h
  simp only [Option.bind_eq_some_iff] at h
  obtain ⟨xs, hxs, h⟩ := h
  cases callee with
  | builtin b => cases h
  | value fo =>
    simp only [Option.bind_eq_some_iff] at h
    obtain ⟨fv, hfv, h⟩ := h
    have hf := hs fo (by simp [Call.operands]) fv hfv
    have hx := evals_rel args.toList xs (hs.sub fun x hx => by simp [Call.operands] at hx ⊢; exact .inr hx) hxs
    split at h
    · rename_i g first cap
      simp only [Option.some.injEq, Prod.mk.injEq] at h
      obtain ⟨rfl, rfl⟩ := h
      cases hv : a.eval fo with
      | func fn first' cap' =>
        rw [hv] at hf
        simp only [VRel] at hf
        obtain ⟨rfl, h1, h2⟩ := hf
        refine ⟨{ target := .fn (.func g) cap', args := first' ++ args.map a.eval }, fun w ty => by simp [resolve, Deferred.ofValue, hv], first'.toList ++ args.toList.map a.eval ++ cap'.toList, ?_, ⟨_, _, rfl⟩, fun w => ?_⟩
        · exact VRels.append _ _ _ _ (VRels.append _ _ _ _ h1 hx) h2
        · have he : (first'.toList ++ args.toList.map a.eval ++ cap'.toList).toArray = first' ++ args.map a.eval ++ cap' := by apply Array.ext'; simp
          simp only [invoke, he]
      | _ => rw [hv] at hf; simp [VRel] at hf
    · cases h
  | invoke r name =>
    simp only [Option.bind_eq_some_iff] at h
    obtain ⟨rv, hrv, h⟩ := h
    have hr := hs r (by simp [Call.operands]) rv hrv
    have hx := evals_rel args.toList xs (hs.sub fun x hx => by simp [Call.operands] at hx ⊢; exact .inr hx) hxs
    split at h
    · rename_i t v
      simp only [Option.bind_eq_some_iff] at h
      obtain ⟨⟨g, x⟩, hm, h⟩ := h
      simp only [Option.some.injEq, Prod.mk.injEq] at h
      obtain ⟨rfl, rfl⟩ := h
      cases hv : a.eval r with
      | iface t' v' =>
        rw [hv] at hr
        simp only [VRel] at hr
        obtain ⟨rfl, hvv⟩ := hr
        have hk : ∃ k, P.types.size + Made.depth = k + 1 := ⟨P.types.size + (Made.depth - 1), by simp only [Made.depth]⟩
        obtain ⟨k, hk⟩ := hk
        have hmr := fun w => method_run (w := w) (k := k) hvv hm
        obtain rfl := (hmr default).2
        refine ⟨{ target := .fn (.method name) #[], args := #[.iface t v'] ++ args.map a.eval }, fun w ty => by simp [resolve, hv], v' :: args.toList.map a.eval, ?_, ⟨_, _, rfl⟩, fun w => ?_⟩
        · simp only [VRels]; exact ⟨hvv, hx⟩
        · have he : (#[Value.iface t v'] ++ args.map a.eval).extract 1 (#[Value.iface t v'] ++ args.map a.eval).size = args.map a.eval := by
            apply Array.ext'
            simp [List.take_of_length_le]
          have he2 : (v' :: args.toList.map a.eval).toArray = #[v'] ++ args.map a.eval := by apply Array.ext'; simp
          have hp : (program).run P w = .ok P w := rfl
          have h0 : (#[Value.iface t v'] ++ args.map a.eval)[0]? = some (.iface t v') := by rw [Array.getElem?_append_left (by simp)]; rfl
          simp only [invoke, h0, callMethod, Sem.run_bind, hp, Result.andThen_ok, hk, (hmr w).1, he, he2]
      | _ => rw [hv] at hr; simp [VRel] at hr
    · cases h
end
end AE
