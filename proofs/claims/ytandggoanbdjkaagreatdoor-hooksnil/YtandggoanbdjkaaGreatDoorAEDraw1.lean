/- The abstract evaluator: operations that look at no object, operations that make one, objects beside those that a step looks at. Conditions: none. -/
import Derived.Test.YtandggoanbdjkaaGreatDoorAERun5
import Derived.Orders
namespace AE
open Go

mutual
theorem AV.same_eq : ∀ (a b : AV), AV.same a b = true → a = b
  | .bool a, b, h => by cases b <;> simp_all [AV.same]
  | .int k a, b, h => by cases b <;> simp_all [AV.same]
  | .str a, b, h => by
    cases b <;> simp only [AV.same, reduceCtorEq, Bool.false_eq_true] at h
    rename_i b
    rw [beq_toListBytes, ByteArray.toList_eq, ByteArray.toList_eq] at h
    rw [ByteArray.ext (Array.ext' (eq_of_beq h))]
  | .ptr a, b, h => by cases b <;> simp_all [AV.same]
  | .gptr a, b, h => by cases b <;> simp_all [AV.same]
  | .slice .., b, h => by cases b <;> simp_all [AV.same]
  | .mt, b, h => by cases b <;> simp_all [AV.same]
  | .map a, b, h => by cases b <;> simp_all [AV.same]
  | .func f x y, b, h => by
    cases b <;> simp only [AV.same, Bool.and_eq_true, beq_iff_eq, reduceCtorEq] at h
    rename_i g u v
    rw [h.1.1, AV.sames_eq x u h.1.2, AV.sames_eq y v h.2]
  | .nilFunc, b, h => by cases b <;> simp_all [AV.same]
  | .iface t x, b, h => by
    cases b <;> simp only [AV.same, Bool.and_eq_true, beq_iff_eq, reduceCtorEq] at h
    rename_i u y
    rw [h.1, AV.same_eq x y h.2]
  | .nilIface, b, h => by cases b <;> simp_all [AV.same]
  | .agg xs, b, h => by
    cases b <;> simp only [AV.same, reduceCtorEq] at h
    rename_i ys
    rw [AV.sames_eq xs ys h]
  | .tuple xs, b, h => by
    cases b <;> simp only [AV.same, reduceCtorEq] at h
    rename_i ys
    rw [AV.sames_eq xs ys h]
  | .top, b, h => by cases b <;> simp_all [AV.same]
theorem AV.sames_eq : ∀ (a b : List AV), AV.sames a b = true → a = b
  | [], b, h => by cases b <;> simp_all [AV.sames]
  | x :: xs, b, h => by
    cases b <;> simp only [AV.sames, Bool.and_eq_true, Bool.false_eq_true] at h
    rename_i y ys
    rw [AV.same_eq x y h.1, AV.sames_eq xs ys h.2]
end

section
variable {P : Program} {ρ ρ' : Ren} {H H' : Heap} {w w' : World} {s : St} {a : Act} {callF : CallF} {D : Array Oper → Bool}

theorem evals_H (s : St) (H2 : Heap) : ∀ os, evals { s with H := H2 } os = evals s os
  | [] => rfl
  | o :: os => by
    have h : ({ s with H := H2 } : St).eval o = s.eval o := by cases o <;> rfl
    simp only [evals, h, evals_H s H2 os]

theorem evalParts_H (s : St) (H2 : Heap) : ∀ os, evalParts { s with H := H2 } os = evalParts s os
  | [] => rfl
  | (i, o) :: os => by
    have h : ({ s with H := H2 } : St).eval o = s.eval o := by cases o <;> rfl
    simp only [evalParts, h, evalParts_H s H2 os]

theorem eval_H (s : St) (H2 : Heap) (o : Operand) : ({ s with H := H2 } : St).eval o = s.eval o := by cases o <;> rfl
theorem evalOpt_H (s : St) (H2 : Heap) (o : Option Operand) : evalOpt { s with H := H2 } o = evalOpt s o := by cases o <;> simp [evalOpt, eval_H]

theorem pv_H {r : Option AV} {v : AV} (h : (r.bind fun v => some (v, H)) = some (v, H')) : H' = H ∧ ∀ H2 : Heap, (r.bind fun v => some (v, H2)) = some (v, H2) := by
  obtain ⟨h1, h2⟩ := pv_spec h
  exact ⟨h2, fun H2 => by rw [h1]; rfl⟩

theorem len_H {t : TypeId} {x v : AV} (hc : clsLen P #[t] = .pure) (h : len P t x H = some v) (H2 : Heap) : len P t x H2 = some v := by
  unfold clsLen at hc
  simp only [List.getElem?_toArray, List.getElem?_cons_zero, Option.bind_some] at hc
  unfold len at h ⊢
  cases hd : P.underlying t with
  | none => simp [hd] at hc
  | some d =>
    rw [hd] at h
    cases d <;> simp [hd] at hc <;> first | exact h | (cases x <;> first | exact h | (simp at h; done))

/-- operations that look at no object -/
theorem opLocal_pure {o : Op} {at_ : Option Nat} {v : AV} (hc : cls P o = .pure) (h : opLocal P s at_ o = some (v, H')) :
    H' = s.H ∧ ∀ H2 at2, opLocal P { s with H := H2 } at2 o = some (v, H2) := by
  cases o with
  | move x => simp only [opLocal, eval_H] at *; exact ⟨(pv_H h).1, fun H2 _ => (pv_H h).2 H2⟩
  | assign x => simp only [opLocal, eval_H] at *; exact ⟨(pv_H h).1, fun H2 _ => (pv_H h).2 H2⟩
  | pick c x y =>
    simp only [opLocal, eval_H, Option.bind_eq_some_iff] at *
    obtain ⟨cv, hcv, h⟩ := h
    split at h
    · exact ⟨(pv_H h).1, fun H2 _ => ⟨_, hcv, (pv_H h).2 H2⟩⟩
    · exact ⟨(pv_H h).1, fun H2 _ => ⟨_, hcv, (pv_H h).2 H2⟩⟩
    · cases h
  | build t ps =>
    simp only [opLocal, evalParts_H, Option.bind_eq_some_iff] at *
    obtain ⟨qs, hqs, u, hu, h⟩ := h
    simp only [Option.some.injEq, Prod.mk.injEq] at h
    obtain ⟨rfl, rfl⟩ := h
    exact ⟨rfl, fun H2 _ => ⟨_, hqs, _, hu, rfl⟩⟩
  | nilCheck x =>
    simp only [opLocal, eval_H, Option.bind_eq_some_iff] at *
    obtain ⟨xv, hx, h⟩ := h
    split at h <;> first | (cases h; done) | skip
    rename_i n1 n2 n3 n4
    simp only [Option.some.injEq, Prod.mk.injEq] at h
    obtain ⟨rfl, rfl⟩ := h
    refine ⟨rfl, fun H2 _ => ⟨_, hx, ?_⟩⟩
    split
    · exact absurd rfl n1
    · exact absurd rfl n2
    · exact absurd rfl n3
    · exact absurd rfl n4
    · rfl
  | binOp op t x y yt =>
    simp only [opLocal, eval_H, Option.bind_eq_some_iff] at *
    obtain ⟨xv, hx, yv, hy, u, hu, h⟩ := h
    simp only [Option.some.injEq, Prod.mk.injEq] at h
    obtain ⟨rfl, rfl⟩ := h
    exact ⟨rfl, fun H2 _ => ⟨_, hx, _, hy, _, hu, rfl⟩⟩
  | unOp op t x =>
    simp only [opLocal, eval_H, Option.bind_eq_some_iff] at *
    obtain ⟨xv, hx, u, hu, h⟩ := h
    simp only [Option.some.injEq, Prod.mk.injEq] at h
    obtain ⟨rfl, rfl⟩ := h
    exact ⟨rfl, fun H2 _ => ⟨_, hx, _, hu, rfl⟩⟩
  | makeInterface t x =>
    simp only [opLocal, eval_H] at *
    split at h
    · cases h
    · simp only [Option.bind_eq_some_iff] at *
      obtain ⟨xv, hx, h⟩ := h
      simp only [Option.some.injEq, Prod.mk.injEq] at h
      obtain ⟨rfl, rfl⟩ := h
      exact ⟨rfl, fun H2 _ => ⟨_, hx, rfl⟩⟩
    · cases h
  | makeFunc fn first cap =>
    cases fn with
    | func f =>
      simp only [opLocal, evals_H, Option.bind_eq_some_iff] at *
      obtain ⟨xs, hx, ys, hy, h⟩ := h
      simp only [Option.some.injEq, Prod.mk.injEq] at h
      obtain ⟨rfl, rfl⟩ := h
      exact ⟨rfl, fun H2 _ => ⟨_, hx, _, hy, rfl⟩⟩
    | _ => simp [opLocal] at h
  | slice t x lo hi mx =>
    simp only [opLocal, eval_H, evalOpt_H, Option.bind_eq_some_iff] at *
    obtain ⟨xv, hx, lv, hl, hv, hh, mv, hm, u, hu, h⟩ := h
    simp only [Option.some.injEq, Prod.mk.injEq] at h
    obtain ⟨rfl, rfl⟩ := h
    exact ⟨rfl, fun H2 _ => ⟨_, hx, _, hl, _, hh, _, hm, _, hu, rfl⟩⟩
  | fieldAddr t x f =>
    simp only [opLocal, eval_H, Option.bind_eq_some_iff] at *
    obtain ⟨xv, hx, u, hu, h⟩ := h
    simp only [Option.some.injEq, Prod.mk.injEq] at h
    obtain ⟨rfl, rfl⟩ := h
    exact ⟨rfl, fun H2 _ => ⟨_, hx, _, hu, rfl⟩⟩
  | field t x f =>
    simp only [opLocal, eval_H, Option.bind_eq_some_iff] at *
    obtain ⟨xv, hx, u, hu, h⟩ := h
    simp only [Option.some.injEq, Prod.mk.injEq] at h
    obtain ⟨rfl, rfl⟩ := h
    exact ⟨rfl, fun H2 _ => ⟨_, hx, _, hu, rfl⟩⟩
  | indexAddr t x i =>
    simp only [opLocal, eval_H, Option.bind_eq_some_iff] at *
    obtain ⟨xv, hx, yv, hy, u, hu, h⟩ := h
    simp only [Option.some.injEq, Prod.mk.injEq] at h
    obtain ⟨rfl, rfl⟩ := h
    exact ⟨rfl, fun H2 _ => ⟨_, hx, _, hy, _, hu, rfl⟩⟩
  | index t x i =>
    simp only [opLocal, eval_H, Option.bind_eq_some_iff] at *
    obtain ⟨xv, hx, yv, hy, u, hu, h⟩ := h
    simp only [Option.some.injEq, Prod.mk.injEq] at h
    obtain ⟨rfl, rfl⟩ := h
    exact ⟨rfl, fun H2 _ => ⟨_, hx, _, hy, _, hu, rfl⟩⟩
  | typeAssert x xt as ok =>
    simp only [opLocal, eval_H, Option.bind_eq_some_iff] at *
    obtain ⟨xv, hx, u, hu, h⟩ := h
    simp only [Option.some.injEq, Prod.mk.injEq] at h
    obtain ⟨rfl, rfl⟩ := h
    exact ⟨rfl, fun H2 _ => ⟨_, hx, _, hu, rfl⟩⟩
  | extract x i =>
    simp only [opLocal, eval_H, Option.bind_eq_some_iff] at *
    obtain ⟨xv, hx, h⟩ := h
    split at h
    · exact ⟨(pv_H h).1, fun H2 _ => ⟨_, hx, (pv_H h).2 H2⟩⟩
    · cases h
  | convert src dst x =>
    simp only [cls, clsConvert] at hc
    simp only [opLocal, eval_H, Option.bind_eq_some_iff] at *
    obtain ⟨xv, hx, h⟩ := h
    cases hd : P.underlying dst with
    | none => rw [hd] at hc; simp at hc
    | some d =>
      cases d <;> rw [hd] at hc <;> (try (simp at hc; done)) <;> try (split at hc <;> simp_all; done)
      rename_i k
      unfold convert at h
      rw [hd] at h
      split at h <;> simp_all
      intro H2 at2
      unfold convert
      simp_all
  | call c =>
    obtain ⟨callee, args, ats⟩ := c
    cases callee with
    | builtin b =>
      cases b with
      | len =>
        simp only [cls] at hc
        simp only [opLocal, evals_H, Option.bind_eq_some_iff] at *
        obtain ⟨vs, hvs, h⟩ := h
        rcases hts : ats.toList with _ | ⟨t, _ | ⟨_, _⟩⟩ <;> rcases vs with _ | ⟨x, _ | ⟨_, _⟩⟩ <;> rw [hts] at h <;> simp only [builtin, reduceCtorEq] at h
        rw [one_of hts] at hc
        simp only [Option.map_eq_some_iff, Prod.mk.injEq] at h
        obtain ⟨_, h, rfl, rfl⟩ := h
        exact ⟨rfl, fun H2 _ => ⟨_, hvs, by rw [builtin, len_H hc h H2]; rfl⟩⟩
      | min =>
        simp only [opLocal, evals_H, Option.bind_eq_some_iff] at *
        obtain ⟨vs, hvs, h⟩ := h
        simp only [builtin, Option.map_eq_some_iff, Prod.mk.injEq] at h
        obtain ⟨_, h, rfl, rfl⟩ := h
        exact ⟨rfl, fun H2 _ => ⟨_, hvs, by rw [builtin, h]; rfl⟩⟩
      | max =>
        simp only [opLocal, evals_H, Option.bind_eq_some_iff] at *
        obtain ⟨vs, hvs, h⟩ := h
        simp only [builtin, Option.map_eq_some_iff, Prod.mk.injEq] at h
        obtain ⟨_, h, rfl, rfl⟩ := h
        exact ⟨rfl, fun H2 _ => ⟨_, hvs, by rw [builtin, h]; rfl⟩⟩
      | _ => simp [cls] at hc
    | _ => simp [cls] at hc
  | _ => simp [cls] at hc

theorem alloc_some {id j : Nat} {o : AObj} (h : H.alloc (some id) o = some (j, H')) : j = id ∧ H.get id = none ∧ id < H.next ∧ H' = H.put id o := by
  unfold Heap.alloc at h
  simp only at h
  split at h
  · rename_i hn
    split at h
    · rename_i hl
      simp only [Option.some.injEq, Prod.mk.injEq] at h
      obtain ⟨rfl, rfl⟩ := h
      exact ⟨rfl, hn, hl, rfl⟩
    · cases h
  · cases h

theorem alloc_put {id : Nat} (o : AObj) (h1 : H.get id = none) (h2 : id < H.next) : H.alloc (some id) o = some (id, H.put id o) := by
  unfold Heap.alloc
  simp only [h1, if_pos h2, Heap.put]

/-- operations that make an object -/
theorem opLocal_new {o : Op} {id : Nat} {v : AV} (hc : cls P o = .new) (h : opLocal P s (some id) o = some (v, H')) :
    ∃ ob, s.H.get id = none ∧ H' = s.H.put id ob ∧ ∀ H2 : Heap, H2.get id = none → id < H2.next → opLocal P { s with H := H2 } (some id) o = some (v, H2.put id ob) := by
  cases o with
  | alloc e =>
    simp only [opLocal, newRow, Option.bind_eq_some_iff] at *
    obtain ⟨z, hz, ⟨j, H1⟩, hn, h⟩ := h
    simp only [Option.some.injEq, Prod.mk.injEq] at h
    obtain ⟨rfl, rfl⟩ := h
    obtain ⟨rfl, h1, h2, rfl⟩ := alloc_some hn
    exact ⟨_, h1, rfl, fun H2 h3 h4 => ⟨z, hz, _, alloc_put _ h3 h4, rfl⟩⟩
  | box e x =>
    simp only [opLocal, newRow, eval_H, Option.bind_eq_some_iff] at *
    obtain ⟨z, hz, h⟩ := h
    by_cases hk : z.known = false
    · rw [if_pos hk] at h; cases h
    rw [if_neg hk] at h
    simp only [Option.bind_eq_some_iff] at h
    obtain ⟨⟨j, H1⟩, hn, h⟩ := h
    simp only [Option.some.injEq, Prod.mk.injEq] at h
    obtain ⟨rfl, rfl⟩ := h
    obtain ⟨rfl, h1, h2, rfl⟩ := alloc_some hn
    refine ⟨_, h1, rfl, fun H2 h3 h4 => ⟨z, hz, ?_⟩⟩
    rw [if_neg hk, alloc_put _ h3 h4]; rfl
  | buildSlice t n ps =>
    simp only [opLocal, evalParts_H, Option.bind_eq_some_iff] at *
    obtain ⟨qs, hq, h⟩ := h
    unfold buildSlice at h
    split at h
    · rename_i e hu
      simp only [Option.bind_eq_some_iff] at h
      obtain ⟨m, hm, h⟩ := h
      split at h
      · rename_i hsm
        simp only [Option.bind_eq_some_iff] at h
        obtain ⟨z, hz, h⟩ := h
        split at h
        · rename_i hl
          simp only [Option.bind_eq_some_iff, newRow] at h
          obtain ⟨cs, hcs, ⟨j, H1⟩, hn, h⟩ := h
          simp only [Option.some.injEq, Prod.mk.injEq] at h
          obtain ⟨rfl, rfl⟩ := h
          obtain ⟨rfl, h1, h2, rfl⟩ := alloc_some hn
          refine ⟨_, h1, rfl, fun H2 h3 h4 => ⟨qs, hq, ?_⟩⟩
          simp only [buildSlice, hu, hm, Option.bind_some, if_pos hsm, hz, if_pos hl, hcs, newRow, alloc_put _ h3 h4]
        · cases h
      · cases h
    · cases h
  | makeSlice t l c =>
    simp only [opLocal, eval_H, Option.bind_eq_some_iff] at *
    obtain ⟨lv, hl, cv, hcv, h⟩ := h
    unfold makeSlice at h
    split at h
    · rename_i e k1 n1 k2 n2 hu
      simp only [Option.bind_eq_some_iff] at h
      obtain ⟨m, hm, b, hb, h⟩ := h
      split at h
      · rename_i hsm
        simp only [Option.bind_eq_some_iff] at h
        obtain ⟨z, hz, h⟩ := h
        split at h
        · rename_i hzl
          simp only [Option.bind_eq_some_iff, newRow] at h
          obtain ⟨⟨j, H1⟩, hn, h⟩ := h
          simp only [Option.some.injEq, Prod.mk.injEq] at h
          obtain ⟨rfl, rfl⟩ := h
          obtain ⟨rfl, h1, h2, rfl⟩ := alloc_some hn
          refine ⟨_, h1, rfl, fun H2 h3 h4 => ⟨_, hl, _, hcv, ?_⟩⟩
          simp only [makeSlice, hu, hm, hb, Option.bind_some, if_pos hsm, hz, if_pos hzl, newRow, alloc_put _ h3 h4]
        · cases h
      · cases h
    · cases h
  | makeMap t r =>
    cases r with
    | none =>
      simp only [opLocal, Option.bind_eq_some_iff] at *
      obtain ⟨⟨j, H1⟩, hn, h⟩ := h
      simp only [Option.some.injEq, Prod.mk.injEq] at h
      obtain ⟨rfl, rfl⟩ := h
      obtain ⟨rfl, h1, h2, rfl⟩ := alloc_some hn
      exact ⟨_, h1, rfl, fun H2 h3 h4 => ⟨_, alloc_put _ h3 h4, rfl⟩⟩
    | some x =>
      simp only [opLocal, eval_H] at *
      split at h
      · rename_i kt et hu
        simp only [Option.bind_eq_some_iff] at h
        obtain ⟨xv, hx, h⟩ := h
        split at h
        · rename_i k n
          simp only [Option.bind_eq_some_iff] at h
          obtain ⟨⟨j, H1⟩, hn, h⟩ := h
          simp only [Option.some.injEq, Prod.mk.injEq] at h
          obtain ⟨rfl, rfl⟩ := h
          obtain ⟨rfl, h1, h2, rfl⟩ := alloc_some hn
          refine ⟨_, h1, rfl, fun H2 h3 h4 => ?_⟩
          simp only [hx, Option.bind_some, alloc_put _ h3 h4]
        · cases h
      · cases h
  | convert src dst x =>
    simp only [cls, clsConvert] at hc
    simp only [opLocal, eval_H, Option.bind_eq_some_iff] at *
    obtain ⟨xv, hx, h⟩ := h
    split at hc <;> try (cases hc; done)
    rename_i e1 e2 hd hs
    unfold convert at h
    rw [hd, hs] at h
    split at h <;> simp_all
    rename_i e s
    split at h
    · rename_i he
      split at h
      · rename_i hsz
        simp only [newRow, Option.bind_eq_some_iff] at h
        obtain ⟨⟨j, H1⟩, hn, h⟩ := h
        simp only [Option.some.injEq, Prod.mk.injEq] at h
        obtain ⟨rfl, rfl⟩ := h
        obtain ⟨rfl, h1, h2, rfl⟩ := alloc_some hn
        refine ⟨h1, _, rfl, fun H2 h3 h4 => ?_⟩
        simp [convert, hd, hs, he, hsz, newRow, alloc_put _ h3 h4]
      · cases h
    · cases h
  | call c =>
    obtain ⟨callee, args, ats⟩ := c
    cases callee with
    | builtin b => cases b <;> simp only [cls, clsLen, reduceCtorEq] at hc; split at hc <;> cases hc
    | _ => simp [cls] at hc
  | _ => simp [cls] at hc

/-- the objects of one heap are among those of another -/
structure Sub (Hb G : Heap) : Prop where
  next : Hb.next = G.next
  get : ∀ i o, Hb.get i = some o → o.live → G.get i = some o

theorem Rel.sub [Base] {G Hb : Heap} (hr : Rel P ρ G w) (h : Sub Hb G) : Rel P ρ Hb w :=
  ⟨fun i o hi hl => hr.obj i o (h.get i o hi hl) hl, fun i j o o' e e' hi hl hj hl' => hr.inj i j o o' e e' (h.get i o hi hl) hl (h.get j o' hj hl') hl', hr.rng, fun i e he => h.next ▸ hr.nxt i e he, hr.kept⟩

/-- what lies beside stays -/
theorem Rel.beside [Base] {at_ : Option Nat} {G Hb H' G' : Heap} (hr : Rel P ρ G w) (hs : Sub Hb G) (hst : Step at_ ρ Hb w ρ' H' w') (hr' : Rel P ρ' H' w') (hn : G'.next = H'.next)
    (hg : ∀ i o, G'.get i = some o → o.live → H'.get i = some o ∨ (G.get i = some o ∧ ∀ o', Hb.get i = some o' → ¬ o'.live)) :
    Rel P ρ' G' w' ∧ (∀ i, ρ' i = none → ρ i = none) := by
  have hkeep : ∀ i o, G.get i = some o → o.live → (∀ o', Hb.get i = some o' → ¬ o'.live) → ∃ e, ρ i = some e ∧ ρ' i = some e ∧ ORel P ρ e o w.heap[e.blk]? ∧ w'.heap[e.blk]? = w.heap[e.blk]? := by
    intro i o hi hl hb
    obtain ⟨e, he, ho⟩ := hr.obj i o hi hl
    refine ⟨e, he, hst.ext i e he, ho, hst.frame e.blk (hr.rng i e he) ?_⟩
    intro j q f hj hql hf hblk
    have := hr.inj j i q o f e (hs.get j q hj hql) hql hi hl hf he hblk
    subst this
    exact hb q hj hql
  refine ⟨⟨?_, ?_, hr'.rng, fun i e he => hn ▸ hr'.nxt i e he, hr'.kept⟩, fun i hi => ?_⟩
  · intro i o hi hl
    rcases hg i o hi hl with h | ⟨h, hb⟩
    · exact hr'.obj i o h hl
    · obtain ⟨e, he, he', ho, hw⟩ := hkeep i o h hl hb
      exact ⟨e, he', by rw [hw]; exact ORel.mono hst.ext _ _ _ ho⟩
  · have cross : ∀ i j o o' e e', H'.get i = some o → o.live → ρ' i = some e → G.get j = some o' → o'.live → (∀ q, Hb.get j = some q → ¬ q.live) → ρ' j = some e' → e.blk = e'.blk → False := by
      intro i j o o' e e' hi hl he hj hl' hb he' hblk
      obtain ⟨f, hf, hf', _, _⟩ := hkeep j o' hj hl' hb
      rw [he'] at hf'; simp only [Option.some.injEq] at hf'; subst hf'
      have hlt := hr.rng j e' hf
      obtain ⟨k, q, g, hk, hql, hgk, hgb⟩ := hst.live i o e hi hl he (by omega)
      have := hr.inj k j q o' g e' (hs.get k q hk hql) hql hj hl' hgk hf (by omega)
      subst this
      exact hb q hk hql
    intro i j o o' e e' hi hl hj hl' he he' hblk
    rcases hg i o hi hl with h | ⟨h, hb⟩
    · rcases hg j o' hj hl' with h' | ⟨h', hb'⟩
      · exact hr'.inj i j o o' e e' h hl h' hl' he he' hblk
      · exact (cross i j o o' e e' h hl he h' hl' hb' he' hblk).elim
    · rcases hg j o' hj hl' with h' | ⟨h', hb'⟩
      · exact (cross j i o' o e' e h' hl' he' h hl hb he hblk.symm).elim
      · obtain ⟨f, hf, hf', _, _⟩ := hkeep i o h hl hb
        obtain ⟨g, hgg, hg', _, _⟩ := hkeep j o' h' hl' hb'
        rw [he] at hf'; rw [he'] at hg'
        simp only [Option.some.injEq] at hf' hg'; subst hf'; subst hg'
        exact hr.inj i j o o' e e' h hl h' hl' hf hgg hblk
  · cases hc : ρ i with
    | none => rfl
    | some e => rw [hst.ext i e hc] at hi; cases hi

/-- the step, seen from the larger heaps, and from what lay before -/
theorem Step.beside [Base] {at_ : Option Nat} {ρ0 : Ren} {H0 G Hb H' G' : Heap} {w0 : World} (h0 : Step none ρ0 H0 w0 ρ G w) (hr : Rel P ρ G w) (hs : Sub Hb G) (hst : Step at_ ρ Hb w ρ' H' w') (hn : G'.next = H'.next)
    (hat : ∀ i, at_ = some i → H0.next ≤ i ∧ i < G.next)
    (hg : ∀ i o, G'.get i = some o → o.live → H'.get i = some o ∨ (G.get i = some o ∧ ∀ o', Hb.get i = some o' → ¬ o'.live)) : Step none ρ0 H0 w0 ρ' G' w' := by
  have h1 : Step at_ ρ G w ρ' G' w' := by
    refine ⟨hst.ext, ?_, by rw [← hs.next, hn]; exact hst.nle, hst.size, ?_, ?_, hst.os, hst.tape, hst.output, ?_⟩
    · intro i e h1 h2; rw [← hs.next]; exact hst.new i e h1 h2
    · intro b hb hn'
      exact hst.frame b hb fun i o e hi hl he => hn' i o e (hs.get i o hi hl) hl he
    · intro i o e hi hl he hb
      rcases hg i o hi hl with h | ⟨h, _⟩
      · obtain ⟨j, q, f, hj, hql, hf, hfb⟩ := hst.live i o e h hl he hb
        exact ⟨j, q, f, hs.get j q hj hql, hql, hf, hfb⟩
      · obtain ⟨f, hf, _⟩ := hr.obj i o h hl
        have := hst.ext i f hf
        rw [he] at this; simp only [Option.some.injEq] at this; subst this
        exact ⟨i, o, e, h, hl, hf, rfl⟩
    · intro i hi hnl ha o ho hl
      rcases hg i o ho hl with h | ⟨h, _⟩
      · exact hst.old i (by rw [hs.next]; exact hi) (fun q hq hql => hnl q (hs.get i q hq hql) hql) ha o h hl
      · exact hnl o h hl
  refine ⟨Ren.le_trans h0.ext h1.ext, ?_, Nat.le_trans h0.nle h1.nle, Nat.le_trans h0.size h1.size, ?_, ?_, h1.os.trans h0.os, h1.tape.trans h0.tape, h1.output.trans h0.output, ?_⟩
  · intro i e k0 k2
    cases k1 : ρ i with
    | none =>
      rcases h1.new i e k1 k2 with h3 | h3
      · exact .inl (Nat.le_trans h0.nle h3)
      · exact .inl (hat i h3).1
    | some e1 => exact (h0.new i e1 k0 k1)
  · intro b hb hn'
    rw [h1.frame b (Nat.lt_of_lt_of_le hb h0.size) ?_, h0.frame b hb hn']
    intro i o e hi hl hr' he
    obtain ⟨j, o', e', hj, hl', hr'', hb'⟩ := h0.live i o e hi hl hr' (he ▸ hb)
    exact hn' j o' e' hj hl' hr'' (hb'.trans he)
  · intro i o e hi hl hr' hb
    obtain ⟨j, o', e', hj, hl', hr'', hb'⟩ := h1.live i o e hi hl hr' (Nat.lt_of_lt_of_le hb h0.size)
    obtain ⟨j2, o2, e2, hj2, hl2, hr2, hb2⟩ := h0.live j o' e' hj hl' hr'' (hb' ▸ hb)
    exact ⟨j2, o2, e2, hj2, hl2, hr2, hb2.trans hb'⟩
  · intro i hi hnl ha o ho hl
    have hne : at_ ≠ some i := fun h => by have := (hat i h).1; omega
    exact h1.old i (Nat.lt_of_lt_of_le hi h0.nle) (h0.old i hi hnl ha) hne o ho hl
end
end AE
