/- The abstract evaluator: regions that draw their order. The trace of the plan. Conditions: none. -/
import Derived.Test.YtandggoanbdjkaaGreatDoorAEDraw2
namespace AE
open Go

section
variable {P : Program} {callF : CallF} {ops : Array Oper} {base : Nat} {L : List (Nat × List Nat)} {st : Nat → St} {ρ : Ren} {w : World} {s s' : St} {a : Act}

/-- the plan, run -/
def Trace (P : Program) (callF : CallF) (ops : Array Oper) (base : Nat) (L : List (Nat × List Nat)) (st : Nat → St) : Prop :=
  ∀ (k i : Nat) (again : List Nat), L[k]? = some (i, again) → ∃ o, ops[i]? = some o ∧
    execW P callF ops (st k) (if cls P o.op = .new then some (base + i) else none) o = some (st (k + 1)) ∧ again.all (stillD P ops (st (k + 1))) = true

theorem trace_of : ∀ (L : List (Nat × List Nat)) (s s' : St), execPlan P callF ops base L s = some s' → ∃ st : Nat → St, st 0 = s ∧ st L.length = s' ∧ Trace P callF ops base L st
  | [], s, s', h => by
    simp only [execPlan, Option.some.injEq] at h; subst h
    exact ⟨fun _ => s, rfl, rfl, fun k i again hk => by simp at hk⟩
  | (i, again) :: L, s, s', h => by
    simp only [execPlan, Option.bind_eq_some_iff] at h
    obtain ⟨o, ho, s1, h1, h⟩ := h
    split at h
    · rename_i hall
      obtain ⟨st, h2, h3, h4⟩ := trace_of L s1 s' h
      refine ⟨fun k => match k with | 0 => s | k + 1 => st k, rfl, h3, ?_⟩
      intro k j ag hk
      cases k with
      | zero =>
        simp only [List.getElem?_cons_zero, Option.some.injEq, Prod.mk.injEq] at hk
        obtain ⟨rfl, rfl⟩ := hk
        refine ⟨o, ho, ?_, ?_⟩
        · show execW P callF ops s _ o = some (st 0)
          rw [h2]; exact h1
        · show again.all (stillD P ops (st 0)) = true
          rw [h2]; exact hall
      | succ k => exact h4 k j ag (by simpa using hk)
    · cases h

theorem execOper_shape {at_ : Option Nat} {o : Oper} (h : execOper P callF s at_ o = some s') : ∃ v, s' = ({ s with H := s'.H, ds := s'.ds }).set o.dst v := by
  unfold execOper at h
  split at h
  · split at h <;> simp only [Option.bind_eq_some_iff] at h
    · obtain ⟨⟨v, H'⟩, h, he⟩ := h
      simp only [Option.some.injEq] at he; subst he
      exact ⟨v, by rw [set_H, set_ds]⟩
    · obtain ⟨⟨f, vs⟩, ht, ⟨v, H'⟩, hcall, he⟩ := h
      simp only [Option.some.injEq] at he; subst he
      exact ⟨v, by rw [set_H, set_ds]⟩
  · simp only [Option.bind_eq_some_iff] at h
    obtain ⟨d, ht, he⟩ := h
    simp only [Option.some.injEq] at he; subst he
    exact ⟨.undef, by rw [set_H, set_ds]⟩
  · simp only [Option.bind_eq_some_iff] at h
    obtain ⟨⟨v, H'⟩, h, he⟩ := h
    simp only [Option.some.injEq] at he; subst he
    exact ⟨v, by rw [set_H, set_ds]⟩

theorem execOper_local {at_ : Option Nat} {o : Oper} (hc : cls P o.op ≠ .eff) (h : execOper P callF s at_ o = some s') : ∃ v H', opLocal P s at_ o.op = some (v, H') ∧ s' = ({ s with H := H' }).set o.dst v := by
  unfold execOper at h
  split at h
  · rename_i c hop
    split at h <;> simp only [Option.bind_eq_some_iff] at h
    · obtain ⟨⟨v, H'⟩, h, he⟩ := h
      simp only [Option.some.injEq] at he; subst he
      exact ⟨v, H', h, rfl⟩
    · rename_i hb
      exfalso
      apply hc
      rw [hop]
      obtain ⟨callee, args, ats⟩ := c
      cases callee with
      | builtin b => simp [isBuiltin] at hb
      | _ => rfl
  · rename_i c hop
    exact absurd (by rw [hop]; rfl) hc
  · simp only [Option.bind_eq_some_iff] at h
    obtain ⟨⟨v, H'⟩, h, he⟩ := h
    simp only [Option.some.injEq] at he; subst he
    exact ⟨v, H', h, rfl⟩

/-- operations that look leave the heap -/
theorem opLocal_look {o : Op} {at_ : Option Nat} {v : AV} {H' : Heap} (hc : (cls P o).rank = 0) (h : opLocal P s at_ o = some (v, H')) : H' = s.H := by
  cases hcl : cls P o with
  | pure => exact (opLocal_pure hcl h).1
  | new => rw [hcl] at hc; simp [Cls.rank] at hc
  | eff => rw [hcl] at hc; simp [Cls.rank] at hc
  | read =>
    cases o with
    | load t x =>
      simp only [opLocal, Option.bind_eq_some_iff, Option.some.injEq, Prod.mk.injEq] at h
      obtain ⟨_, _, _, _, _, rfl⟩ := h; rfl
    | lookup t x i ok =>
      simp only [opLocal, Option.bind_eq_some_iff, Option.some.injEq, Prod.mk.injEq] at h
      obtain ⟨_, _, _, _, _, _, _, rfl⟩ := h; rfl
    | convert src dst x =>
      simp only [cls, clsConvert] at hcl
      simp only [opLocal, Option.bind_eq_some_iff] at h
      obtain ⟨xv, _, h⟩ := h
      split at hcl <;> try (cases hcl; done)
      rename_i e1 hd
      unfold convert at h
      rw [hd] at h
      split at h <;> first | (cases h; done) | skip
      all_goals first
        | (simp only [Option.some.injEq, Prod.mk.injEq] at h; exact h.2.symm)
        | (rename_i e1' e2'; simp at e2'; done)
        | (split at h <;> first | (cases h; done) | (simp only [Option.some.injEq, Prod.mk.injEq] at h; exact h.2.symm) | (simp only [Option.bind_eq_some_iff, Option.some.injEq, Prod.mk.injEq] at h; obtain ⟨_, _, _, _, _, rfl⟩ := h; rfl))
        | simp_all
    | call c =>
      obtain ⟨callee, args, ats⟩ := c
      cases callee with
      | builtin b =>
        cases b with
        | len =>
          simp only [opLocal, Option.bind_eq_some_iff] at h
          obtain ⟨vs, _, h⟩ := h
          rcases hts : ats.toList with _ | ⟨t, _ | ⟨_, _⟩⟩ <;> rcases vs with _ | ⟨x, _ | ⟨_, _⟩⟩ <;> rw [hts] at h <;> simp only [builtin, reduceCtorEq] at h
          simp only [Option.map_eq_some_iff, Prod.mk.injEq] at h
          obtain ⟨_, _, _, rfl⟩ := h; rfl
        | _ => simp [cls] at hcl
      | _ => simp [cls] at hcl
    | _ => simp [cls] at hcl

/-- an object that the plan makes at place k -/
def MadeAt (P : Program) (ops : Array Oper) (base : Nat) (st : Nat → St) (k i : Nat) (ob : AObj) : Prop :=
  ∃ o, ops[i]? = some o ∧ cls P o.op = .new ∧ wanted (st k) ops o = some true ∧ (st (k + 1)).H = (st k).H.put (base + i) ob

theorem trace_tmp (hT : Trace P callF ops base L st) {k i : Nat} {ag : List Nat} {o : Oper} (hk : L[k]? = some (i, ag)) (ho : ops[i]? = some o) :
    (∀ t, o.dst ≠ some t → (st (k + 1)).tmp t = (st k).tmp t) ∧ (st (k + 1)).n = (st k).n := by
  obtain ⟨o', ho', hx, _⟩ := hT k i ag hk
  rw [ho] at ho'; simp only [Option.some.injEq] at ho'; subst ho'
  unfold execW at hx
  simp only [Option.bind_eq_some_iff] at hx
  obtain ⟨b, hb, hx⟩ := hx
  cases b with
  | false =>
    simp only [Option.some.injEq] at hx
    rw [← hx]
    exact ⟨fun t ht => by rw [tmp_set, if_neg (fun c => ht c.1)], by rw [set_n]⟩
  | true =>
    obtain ⟨v, hv⟩ := execOper_shape hx
    rw [hv]
    exact ⟨fun t ht => by rw [tmp_set, if_neg (fun c => ht c.1)]; rfl, by rw [set_n]⟩

theorem trace_look (hT : Trace P callF ops base L st) {k i : Nat} {ag : List Nat} {o : Oper} (hk : L[k]? = some (i, ag)) (ho : ops[i]? = some o) (hc : cls P o.op ≠ .eff) :
    (st (k + 1)).ds = (st k).ds ∧ ((st (k + 1)).H = (st k).H ∨ ∃ ob, MadeAt P ops base st k i ob) := by
  obtain ⟨o', ho', hx, _⟩ := hT k i ag hk
  rw [ho] at ho'; simp only [Option.some.injEq] at ho'; subst ho'
  unfold execW at hx
  simp only [Option.bind_eq_some_iff] at hx
  obtain ⟨b, hb, hx⟩ := hx
  cases b with
  | false =>
    simp only [Option.some.injEq] at hx
    rw [← hx]
    exact ⟨by rw [set_ds], .inl (by rw [set_H])⟩
  | true =>
    obtain ⟨v, H', h1, h2⟩ := execOper_local hc hx
    refine ⟨by rw [h2, set_ds], ?_⟩
    by_cases hn : cls P o.op = .new
    · rw [if_pos hn] at h1
      obtain ⟨ob, _, h3, _⟩ := opLocal_new hn h1
      refine .inr ⟨ob, o, ho, hn, hb, ?_⟩
      rw [h2, set_H]; exact h3
    · refine .inl ?_
      rw [h2, set_H]
      refine opLocal_look ?_ h1
      cases hcl : cls P o.op with
      | pure => rfl
      | read => rfl
      | new => exact absurd hcl hn
      | eff => exact absurd hcl hc
end
end AE
