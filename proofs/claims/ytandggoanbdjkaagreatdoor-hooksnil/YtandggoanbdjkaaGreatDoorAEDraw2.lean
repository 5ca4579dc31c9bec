/- The abstract evaluator: regions that draw their order. What is checked of them once. Conditions: none. -/
import Derived.Test.YtandggoanbdjkaaGreatDoorAEDraw1
namespace AE
open Go

/-! ### what is checked of a region -/

def maskOf : List (Nat × Nat) → Nat → Nat
  | [], _ => 0
  | p :: acc, i => if p.1 = i then p.2 else maskOf acc i

def closeMask (acc : List (Nat × Nat)) : List Edge → Nat
  | [] => 0
  | e :: es => if bindsAny e then closeMask acc es ||| (2 ^ e.on ||| maskOf acc e.on) else closeMask acc es

/-- may j, which comes ahead of i in the plan, be left in another place? -/
def pairOk (P : Program) (ops : Array Oper) (o : Oper) (again : List Nat) (m : Nat) (j : Nat) : Bool :=
  match ops[j]? with
  | none => false
  | some oj =>
    (m.testBit j || (match cls P oj.op, cls P o.op with
      | .eff, .eff | .eff, .read | .new, .eff | .new, .read => false
      | .read, .eff => again.contains j
      | _, _ => true)) &&
    (match oj.dst with
      | some t => (m.testBit j || !(o.looksAt ops).contains t) && !(o.dst == some t)
      | none => true) &&
    (match o.dst with
      | some t => !(oj.looksAt ops).contains t || (m.testBit j && (cls P oj.op).rank != 0 || m.testBit j && decide (cls P oj.op = .pure))
      | none => true)

def chk (P : Program) (ops : Array Oper) : List (Nat × Nat) → List (Nat × List Nat) → Bool
  | _, [] => true
  | acc, (i, again) :: l => match ops[i]? with
    | none => false
    | some o =>
      (o.after.toList.all fun e => !bindsAny e || acc.any (·.1 == e.on)) && !(acc.any (·.1 == i)) &&
      (match o.dst with
        | some t => !(o.looksAt ops).contains t
        | none => true) &&
      (acc.all fun p => pairOk P ops o again (closeMask acc o.after.toList) p.1) && chk P ops ((i, closeMask acc o.after.toList) :: acc) l

def drawPlan (P : Program) (ops : Array Oper) : List (Nat × List Nat) := planD P ops [] (orderD P ops ops.size [])

/-- Is a region that draws one that the abstract evaluator may run in its own order? -/
def drawOk (P : Program) (ops : Array Oper) : Bool :=
  (drawPlan P ops).length == ops.size && chk P ops [] (drawPlan P ops) && (List.range ops.size).all fun i => (drawPlan P ops).any (·.1 == i)

/-- j has to be ahead of i -/
inductive Anc (ops : Array Oper) : Nat → Nat → Prop
  | edge {i : Nat} {o : Oper} {e : Edge} : ops[i]? = some o → e ∈ o.after.toList → bindsAny e = true → Anc ops i e.on
  | more {i : Nat} {o : Oper} {e : Edge} {j : Nat} : ops[i]? = some o → e ∈ o.after.toList → bindsAny e = true → Anc ops e.on j → Anc ops i j

section
variable {P : Program} {ops : Array Oper}

theorem maskOf_anc {acc : List (Nat × Nat)} (h : ∀ p ∈ acc, ∀ j, p.2.testBit j = true → Anc ops p.1 j) (i j : Nat) (hj : (maskOf acc i).testBit j = true) : Anc ops i j := by
  induction acc with
  | nil => simp [maskOf] at hj
  | cons p acc ih =>
    simp only [maskOf] at hj
    split at hj
    · rename_i e; subst e; exact h p (by simp) j hj
    · exact ih (fun q hq => h q (by simp [hq])) hj

theorem closeMask_anc {acc : List (Nat × Nat)} (h : ∀ p ∈ acc, ∀ j, p.2.testBit j = true → Anc ops p.1 j) {i : Nat} {o : Oper} (ho : ops[i]? = some o) : ∀ (es : List Edge), (∀ e ∈ es, e ∈ o.after.toList) →
    ∀ j, (closeMask acc es).testBit j = true → Anc ops i j
  | [], _, j, hj => by simp [closeMask] at hj
  | e :: es, hes, j, hj => by
    simp only [closeMask] at hj
    split at hj
    · rename_i hb
      simp only [Nat.testBit_or, Bool.or_eq_true, Nat.testBit_two_pow, decide_eq_true_eq] at hj
      rcases hj with hj | hj | hj
      · exact closeMask_anc h ho es (fun e he => hes e (by simp [he])) j hj
      · subst hj; exact .edge ho (hes e (by simp)) hb
      · exact .more ho (hes e (by simp)) hb (maskOf_anc h _ _ hj)
    · exact closeMask_anc h ho es (fun e he => hes e (by simp [he])) j hj

/-- what is known of two operations, j ahead of i in the plan -/
structure Pair (P : Program) (ops : Array Oper) (i : Nat) (o : Oper) (again : List Nat) (j : Nat) (oj : Oper) : Prop where
  effEff : cls P oj.op = .eff → cls P o.op = .eff → Anc ops i j
  effRead : cls P oj.op = .eff → cls P o.op = .read → Anc ops i j
  newEff : cls P oj.op = .new → cls P o.op = .eff → Anc ops i j
  newRead : cls P oj.op = .new → cls P o.op = .read → Anc ops i j
  readEff : cls P oj.op = .read → cls P o.op = .eff → Anc ops i j ∨ j ∈ again
  data : ∀ t, oj.dst = some t → t ∈ o.looksAt ops → Anc ops i j
  once : ∀ t, oj.dst = some t → o.dst ≠ some t
  anti : ∀ t, o.dst = some t → t ∈ oj.looksAt ops → Anc ops i j ∧ cls P oj.op ≠ .read

theorem pairOk_spec {i : Nat} {o : Oper} {again : List Nat} {m j : Nat} (hm : ∀ j, m.testBit j = true → Anc ops i j) (h : pairOk P ops o again m j = true) :
    ∃ oj, ops[j]? = some oj ∧ Pair P ops i o again j oj := by
  unfold pairOk at h
  split at h
  · cases h
  · rename_i oj hoj
    simp only [Bool.and_eq_true, Bool.or_eq_true] at h
    obtain ⟨⟨h1, h2⟩, h3⟩ := h
    refine ⟨oj, hoj, ?_, ?_, ?_, ?_, ?_, ?_, ?_, ?_⟩
    · intro c d; rw [c, d] at h1; exact hm j (by simpa using h1)
    · intro c d; rw [c, d] at h1; exact hm j (by simpa using h1)
    · intro c d; rw [c, d] at h1; exact hm j (by simpa using h1)
    · intro c d; rw [c, d] at h1; exact hm j (by simpa using h1)
    · intro c d
      rw [c, d] at h1
      rcases h1 with h1 | h1
      · exact .inl (hm j h1)
      · exact .inr (by simpa using h1)
    · intro t ht hl
      rw [ht] at h2
      simp only [Bool.and_eq_true, Bool.or_eq_true, Bool.not_eq_true', List.contains_eq_mem, decide_eq_false_iff_not] at h2
      rcases h2.1 with h | h
      · exact hm j h
      · exact absurd hl h
    · intro t ht he
      rw [ht] at h2
      simp [he] at h2
    · intro t ht hl
      rw [ht] at h3
      simp only [List.contains_eq_mem, hl, decide_true, Bool.not_true, Bool.false_or, Bool.or_eq_true, Bool.and_eq_true, bne_iff_ne, ne_eq, decide_eq_true_eq] at h3
      rcases h3 with ⟨h3, h4⟩ | ⟨h3, h4⟩
      · exact ⟨hm j h3, fun c => h4 (by rw [c]; rfl)⟩
      · exact ⟨hm j h3, fun c => by rw [c] at h4; cases h4⟩

/-- what is known of a place of the plan -/
structure PlanAt (P : Program) (ops : Array Oper) (before : Nat → Prop) (i : Nat) (again : List Nat) (o : Oper) : Prop where
  op : ops[i]? = some o
  edges : ∀ e ∈ o.after.toList, bindsAny e = true → before e.on
  fresh : ¬ before i
  self : ∀ t, o.dst = some t → t ∉ o.looksAt ops
  pairs : ∀ j, before j → ∃ oj, ops[j]? = some oj ∧ Pair P ops i o again j oj

theorem chk_spec : ∀ (l : List (Nat × List Nat)) (acc : List (Nat × Nat)), chk P ops acc l = true → (∀ p ∈ acc, ∀ j, p.2.testBit j = true → Anc ops p.1 j) →
    ∀ (k i : Nat) (again : List Nat), l[k]? = some (i, again) → ∃ o, PlanAt P ops (fun j => (∃ p ∈ acc, p.1 = j) ∨ ∃ (k' : Nat) (ag : List Nat), k' < k ∧ l[k']? = some (j, ag)) i again o
  | [], acc, _, _, k, i, again, hk => by simp at hk
  | (i0, again0) :: l, acc, h, hacc, k, i, again, hk => by
    simp only [chk] at h
    split at h
    · cases h
    · rename_i o ho
      simp only [Bool.and_eq_true] at h
      obtain ⟨⟨⟨⟨h1, h2⟩, hs⟩, h3⟩, h4⟩ := h
      have hm := closeMask_anc hacc ho o.after.toList (fun e he => he)
      cases k with
      | zero =>
        simp only [List.getElem?_cons_zero, Option.some.injEq, Prod.mk.injEq] at hk
        obtain ⟨rfl, rfl⟩ := hk
        refine ⟨o, ho, ?_, ?_, ?_, ?_⟩
        · intro e he hb
          have := List.all_eq_true.1 h1 e he
          simp only [hb, Bool.not_true, Bool.false_or, List.any_eq_true, beq_iff_eq] at this
          exact .inl this
        · rintro (⟨p, hp, he⟩ | ⟨k', ag, hk', _⟩)
          · have : acc.any (fun x => x.1 == i0) = true := List.any_eq_true.2 ⟨p, hp, by simpa using he⟩
            simp [this] at h2
          · omega
        · intro t ht hl
          rw [ht] at hs
          simp [hl] at hs
        · rintro j (⟨p, hp, rfl⟩ | ⟨k', ag, hk', _⟩)
          · exact pairOk_spec hm (List.all_eq_true.1 h3 p hp)
          · omega
      | succ k =>
        simp only [List.getElem?_cons_succ] at hk
        obtain ⟨o', hp⟩ := chk_spec l _ h4 (by
          intro p hp j hj
          rcases List.mem_cons.1 hp with rfl | hp
          · exact hm j hj
          · exact hacc p hp j hj) k i again hk
        have conv : ∀ j, ((∃ p ∈ (i0, closeMask acc o.after.toList) :: acc, p.1 = j) ∨ ∃ (k' : Nat) (ag : List Nat), k' < k ∧ l[k']? = some (j, ag)) ↔
            ((∃ p ∈ acc, p.1 = j) ∨ ∃ (k' : Nat) (ag : List Nat), k' < k + 1 ∧ ((i0, again0) :: l)[k']? = some (j, ag)) := by
          intro j
          constructor
          · rintro (⟨p, hp, rfl⟩ | ⟨k', ag, hk', hl⟩)
            · rcases List.mem_cons.1 hp with rfl | hp
              · exact .inr ⟨0, again0, by omega, by simp⟩
              · exact .inl ⟨p, hp, rfl⟩
            · exact .inr ⟨k' + 1, ag, by omega, by simpa using hl⟩
          · rintro (⟨p, hp, rfl⟩ | ⟨k', ag, hk', hl⟩)
            · exact .inl ⟨p, List.mem_cons_of_mem _ hp, rfl⟩
            · cases k' with
              | zero =>
                simp only [List.getElem?_cons_zero, Option.some.injEq, Prod.mk.injEq] at hl
                exact .inl ⟨_, List.mem_cons_self .., hl.1⟩
              | succ k' => exact .inr ⟨k', ag, by omega, by simpa using hl⟩
        exact ⟨o', hp.op, fun e he hb => (conv _).1 (hp.edges e he hb), fun h => hp.fresh ((conv _).2 h), hp.self, fun j hj => hp.pairs j ((conv _).2 hj)⟩

/-- what is known of the plan of a region that was checked -/
structure Plan (P : Program) (ops : Array Oper) (L : List (Nat × List Nat)) : Prop where
  len : L.length = ops.size
  at_ : ∀ (k i : Nat) (again : List Nat), L[k]? = some (i, again) → ∃ o, PlanAt P ops (fun j => ∃ (k' : Nat) (ag : List Nat), k' < k ∧ L[k']? = some (j, ag)) i again o
  onto : ∀ i, i < ops.size → ∃ (k : Nat) (ag : List Nat), L[k]? = some (i, ag)

theorem drawOk_plan (h : drawOk P ops = true) : Plan P ops (drawPlan P ops) := by
  unfold drawOk at h
  simp only [Bool.and_eq_true, beq_iff_eq] at h
  obtain ⟨⟨h1, h2⟩, h3⟩ := h
  refine ⟨h1, fun k i again hk => ?_, fun i hi => ?_⟩
  · obtain ⟨o, ho⟩ := chk_spec _ [] h2 (by simp) k i again hk
    have conv : ∀ j, ((∃ p ∈ ([] : List (Nat × Nat)), p.1 = j) ∨ ∃ (k' : Nat) (ag : List Nat), k' < k ∧ (drawPlan P ops)[k']? = some (j, ag)) ↔ ∃ (k' : Nat) (ag : List Nat), k' < k ∧ (drawPlan P ops)[k']? = some (j, ag) := by
      intro j; simp
    exact ⟨o, ho.op, fun e he hb => (conv _).1 (ho.edges e he hb), fun h => ho.fresh ((conv _).2 h), ho.self, fun j hj => ho.pairs j ((conv _).2 hj)⟩
  · have := List.all_eq_true.1 h3 i (by simpa using hi)
    obtain ⟨p, hp, he⟩ := List.any_eq_true.1 this
    obtain ⟨k, hk⟩ := List.getElem?_of_mem hp
    simp only [beq_iff_eq] at he
    subst he
    exact ⟨k, p.2, hk⟩
end
end AE
