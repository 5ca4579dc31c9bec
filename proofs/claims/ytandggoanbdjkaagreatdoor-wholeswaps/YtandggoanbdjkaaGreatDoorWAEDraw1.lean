/- The abstract evaluator: operations that look at no object, operations that make one, objects beside those that a step looks at. Conditions: none. -/
import Derived.Test.YtandggoanbdjkaaGreatDoorWAERun4
import Derived.Orders
namespace AE
open Go

mutual
theorem AV.same_eq : ∀ (a b : AV), AV.same a b = true → a = b
  | .bool a, b, h => by cases b <;> simp_all [AV.same]
  | .int k a, b, h => by cases b <;> simp_all [AV.same]
  | .str a, b, h => by
    cases b <;> simp only [AV.same, Bool.false_eq_true] at h
    rename_i b
    rw [beq_toListBytes, ByteArray.toList_eq, ByteArray.toList_eq] at h
    rw [ByteArray.ext (Array.ext' (eq_of_beq h))]
  | .ptr a, b, h => by cases b <;> simp_all [AV.same]
  | .gptr a, b, h => by cases b <;> simp_all [AV.same]
  | .slice .., b, h => by cases b <;> simp_all [AV.same]
  | .mt, b, h => by cases b <;> simp_all [AV.same]
  | .map a, b, h => by cases b <;> simp_all [AV.same]
  | .func f x y, b, h => by
    cases b <;> simp only [AV.same, Bool.and_eq_true, beq_iff_eq, reduceCtorEq] at h
    rename_i g u v
    rw [h.1.1, AV.sames_eq x u h.1.2, AV.sames_eq y v h.2]
  | .nilFunc, b, h => by cases b <;> simp_all [AV.same]
  | .iface t x, b, h => by
    cases b <;> simp only [AV.same, Bool.and_eq_true, beq_iff_eq, reduceCtorEq] at h
    rename_i u y
    rw [h.1, AV.same_eq x y h.2]
  | .nilIface, b, h => by cases b <;> simp_all [AV.same]
  | .agg xs, b, h => by
    cases b <;> simp only [AV.same, reduceCtorEq] at h
    rename_i ys
    rw [AV.sames_eq xs ys h]
  | .tuple xs, b, h => by
    cases b <;> simp only [AV.same, reduceCtorEq] at h
    rename_i ys
    rw [AV.sames_eq xs ys h]
  | .top, b, h => by cases b <;> simp_all [AV.same]
  | .sym i n, b, h => by cases b <;> simp_all [AV.same]
theorem AV.sames_eq : ∀ (a b : List AV), AV.sames a b = true → a = b
  | [], b, h => by cases b <;> simp_all [AV.sames]
  | x :: xs, b, h => by
    cases b <;> simp only [AV.sames, Bool.and_eq_true, Bool.false_eq_true] at h
    rename_i y ys
    rw [AV.same_eq x y h.1, AV.sames_eq xs ys h.2]
end

section
variable {P : Program} {ρ ρ' : Ren} {H H' : Heap} {w w' : World} {s : St} {a : Act} {callF : CallF} {D : Array Oper → Bool}

theorem evals_H (s : St) (H2 : Heap) : ∀ os, evals { s with H := H2 } os = evals s os
  | [] => rfl
  | o :: os => by
    have h : ({ s with H := H2 } : St).eval o = s.eval o := by cases o <;> rfl
    simp only [evals, h, evals_H s H2 os]

theorem evalParts_H (s : St) (H2 : Heap) : ∀ os, evalParts { s with H := H2 } os = evalParts s os
  | [] => rfl
  | (i, o) :: os => by
    have h : ({ s with H := H2 } : St).eval o = s.eval o := by cases o <;> rfl
    simp only [evalParts, h, evalParts_H s H2 os]

theorem eval_H (s : St) (H2 : Heap) (o : Operand) : ({ s with H := H2 } : St).eval o = s.eval o := by cases o <;> rfl
theorem evalOpt_H (s : St) (H2 : Heap) (o : Option Operand) : evalOpt { s with H := H2 } o = evalOpt s o := by cases o <;> simp [evalOpt, eval_H]

theorem pv_H {r : Option AV} {v : AV} (h : (r.bind fun v => some (v, H)) = some (v, H')) : H' = H ∧ ∀ H2 : Heap, (r.bind fun v => some (v, H2)) = some (v, H2) := by
  obtain ⟨h1, h2⟩ := pv_spec h
  exact ⟨h2, fun H2 => by rw [h1]; rfl⟩

theorem len_H {t : TypeId} {x v : AV} (hc : clsLen P #[t] = .pure) (h : len P t x H = some v) (H2 : Heap) : len P t x H2 = some v := by
  unfold clsLen at hc
  simp only [List.getElem?_toArray, List.getElem?_cons_zero, Option.bind_some] at hc
  unfold len at h ⊢
  cases hd : P.underlying t with
  | none => simp [hd] at hc
  | some d =>
    rw [hd] at h
    cases d <;> simp [hd] at hc <;> first | exact h | (cases x <;> first | exact h | (simp at h; done))

/-- operations that look at no object -/
theorem opLocal_pure {o : Op} {at_ : Option Nat} {v : AV} (hc : cls P o = .pure) (h : opLocal P s at_ o = some (v, H')) :
    H' = s.H ∧ ∀ H2 at2, opLocal P { s with H := H2 } at2 o = some (v, H2) := by
  cases o with
  | move x => simp only [opLocal, eval_H] at *; exact ⟨(pv_H h).1, fun H2 _ => (pv_H h).2 H2⟩
  | assign x => simp only [opLocal, eval_H] at *; exact ⟨(pv_H h).1, fun H2 _ => (pv_H h).2 H2⟩
  | pick c x y =>
    simp only [opLocal, eval_H, Option.bind_eq_some_iff] at *
    obtain ⟨cv, hcv, h⟩ := h
    split at h
    · exact ⟨(pv_H h).1, fun H2 _ => ⟨_, hcv, (pv_H h).2 H2⟩⟩
    · exact ⟨(pv_H h).1, fun H2 _ => ⟨_, hcv, (pv_H h).2 H2⟩⟩
    · cases h
  | build t ps =>
    simp only [opLocal, evalParts_H, Option.bind_eq_some_iff] at *
    obtain ⟨qs, hqs, u, hu, h⟩ := h
    simp only [Option.some.injEq, Prod.mk.injEq] at h
    obtain ⟨rfl, rfl⟩ := h
    exact ⟨rfl, fun H2 _ => ⟨_, hqs, _, hu, rfl⟩⟩
  | nilCheck x =>
    simp only [opLocal, eval_H, Option.bind_eq_some_iff] at *
    obtain ⟨xv, hx, h⟩ := h
    split at h <;> first | (cases h; done) | skip
    rename_i n1 n2 n3 n4
    simp only [Option.some.injEq, Prod.mk.injEq] at h
    obtain ⟨rfl, rfl⟩ := h
    refine ⟨rfl, fun H2 _ => ⟨_, hx, ?_⟩⟩
    split
    · exact absurd rfl n1
    · exact absurd rfl n2
    · exact absurd rfl n3
    · exact absurd rfl n4
    · rfl
  | binOp op t x y yt =>
    simp only [opLocal, eval_H, Option.bind_eq_some_iff] at *
    obtain ⟨xv, hx, yv, hy, u, hu, h⟩ := h
    simp only [Option.some.injEq, Prod.mk.injEq] at h
    obtain ⟨rfl, rfl⟩ := h
    exact ⟨rfl, fun H2 _ => ⟨_, hx, _, hy, _, hu, rfl⟩⟩
  | unOp op t x =>
    simp only [opLocal, eval_H, Option.bind_eq_some_iff] at *
    obtain ⟨xv, hx, u, hu, h⟩ := h
    simp only [Option.some.injEq, Prod.mk.injEq] at h
    obtain ⟨rfl, rfl⟩ := h
    exact ⟨rfl, fun H2 _ => ⟨_, hx, _, hu, rfl⟩⟩
  | makeInterface t x =>
    simp only [opLocal, eval_H] at *
    split at h
    · cases h
    · simp only [Option.bind_eq_some_iff] at *
      obtain ⟨xv, hx, h⟩ := h
      simp only [Option.some.injEq, Prod.mk.injEq] at h
      obtain ⟨rfl, rfl⟩ := h
      exact ⟨rfl, fun H2 _ => ⟨_, hx, rfl⟩⟩
    · cases h
  | makeFunc fn first cap =>
    cases fn with
    | func f =>
      simp only [opLocal, evals_H, Option.bind_eq_some_iff] at *
      obtain ⟨xs, hx, ys, hy, h⟩ := h
      simp only [Option.some.injEq, Prod.mk.injEq] at h
      obtain ⟨rfl, rfl⟩ := h
      exact ⟨rfl, fun H2 _ => ⟨_, hx, _, hy, rfl⟩⟩
    | _ => simp [opLocal] at h
  | slice t x lo hi mx =>
    simp only [opLocal, eval_H, evalOpt_H, Option.bind_eq_some_iff] at *
    obtain ⟨xv, hx, lv, hl, hv, hh, mv, hm, u, hu, h⟩ := h
    simp only [Option.some.injEq, Prod.mk.injEq] at h
    obtain ⟨rfl, rfl⟩ := h
    exact ⟨rfl, fun H2 _ => ⟨_, hx, _, hl, _, hh, _, hm, _, hu, rfl⟩⟩
  | fieldAddr t x f =>
    simp only [opLocal, eval_H, Option.bind_eq_some_iff] at *
    obtain ⟨xv, hx, u, hu, h⟩ := h
    simp only [Option.some.injEq, Prod.mk.injEq] at h
    obtain ⟨rfl, rfl⟩ := h
    exact ⟨rfl, fun H2 _ => ⟨_, hx, _, hu, rfl⟩⟩
  | field t x f =>
    simp only [opLocal, eval_H, Option.bind_eq_some_iff] at *
    obtain ⟨xv, hx, u, hu, h⟩ := h
    simp only [Option.some.injEq, Prod.mk.injEq] at h
    obtain ⟨rfl, rfl⟩ := h
    exact ⟨rfl, fun H2 _ => ⟨_, hx, _, hu, rfl⟩⟩
  | indexAddr t x i =>
    simp only [opLocal, eval_H, Option.bind_eq_some_iff] at *
    obtain ⟨xv, hx, yv, hy, u, hu, h⟩ := h
    simp only [Option.some.injEq, Prod.mk.injEq] at h
    obtain ⟨rfl, rfl⟩ := h
    exact ⟨rfl, fun H2 _ => ⟨_, hx, _, hy, _, hu, rfl⟩⟩
  | index t x i =>
    simp only [opLocal, eval_H, Option.bind_eq_some_iff] at *
    obtain ⟨xv, hx, yv, hy, u, hu, h⟩ := h
    simp only [Option.some.injEq, Prod.mk.injEq] at h
    obtain ⟨rfl, rfl⟩ := h
    exact ⟨rfl, fun H2 _ => ⟨_, hx, _, hy, _, hu, rfl⟩⟩
  | typeAssert x xt as ok =>
    simp only [opLocal, eval_H, Option.bind_eq_some_iff] at *
    obtain ⟨xv, hx, u, hu, h⟩ := h
    simp only [Option.some.injEq, Prod.mk.injEq] at h
    obtain ⟨rfl, rfl⟩ := h
    exact ⟨rfl, fun H2 _ => ⟨_, hx, _, hu, rfl⟩⟩
  | extract x i =>
    simp only [opLocal, eval_H, Option.bind_eq_some_iff] at *
    obtain ⟨xv, hx, h⟩ := h
    split at h
    · exact ⟨(pv_H h).1, fun H2 _ => ⟨_, hx, (pv_H h).2 H2⟩⟩
    · cases h
  | convert src dst x =>
    simp only [cls, clsConvert] at hc
    simp only [opLocal, eval_H, Option.bind_eq_some_iff] at *
    obtain ⟨xv, hx, h⟩ := h
    cases hd : P.underlying dst with
    | none => rw [hd] at hc; simp at hc
    | some d =>
      cases d <;> rw [hd] at hc <;> (try (simp at hc; done)) <;> try (split at hc <;> simp_all; done)
      rename_i k
      unfold convert at h
      rw [hd] at h
      split at h <;> simp_all
      intro H2 at2
      unfold convert
      simp_all
  | call c =>
    obtain ⟨callee, args, ats⟩ := c
    cases callee with
    | builtin b =>
      cases b with
      | len =>
        simp only [cls] at hc
        simp only [opLocal, evals_H, Option.bind_eq_some_iff] at *
        obtain ⟨vs, hvs, h⟩ := h
        rcases hts : ats.toList with _ | ⟨t, _ | ⟨_, _⟩⟩ <;> rcases vs with _ | ⟨x, _ | ⟨_, _⟩⟩ <;> rw [hts] at h <;> simp only [builtin, reduceCtorEq] at h
        rw [one_of hts] at hc
        simp only [Option.map_eq_some_iff, Prod.mk.injEq] at h
        obtain ⟨_, h, rfl, rfl⟩ := h
        exact ⟨rfl, fun H2 _ => ⟨_, hvs, by rw [builtin, len_H hc h H2]; rfl⟩⟩
      | min =>
        simp only [opLocal, evals_H, Option.bind_eq_some_iff] at *
        obtain ⟨vs, hvs, h⟩ := h
        simp only [builtin, Option.map_eq_some_iff, Prod.mk.injEq] at h
        obtain ⟨_, h, rfl, rfl⟩ := h
        exact ⟨rfl, fun H2 _ => ⟨_, hvs, by rw [builtin, h]; rfl⟩⟩
      | max =>
        simp only [opLocal, evals_H, Option.bind_eq_some_iff] at *
        obtain ⟨vs, hvs, h⟩ := h
        simp only [builtin, Option.map_eq_some_iff, Prod.mk.injEq] at h
        obtain ⟨_, h, rfl, rfl⟩ := h
        exact ⟨rfl, fun H2 _ => ⟨_, hvs, by rw [builtin, h]; rfl⟩⟩
      | _ => simp [cls] at hc
    | _ => simp [cls] at hc
  | _ => simp [cls] at hc

theorem alloc_some {id j : Nat} {o : AObj} (h : H.alloc (some id) o = some (j, H')) : j = id ∧ H.get id = none ∧ id < H.next ∧ H' = H.put id o := by
  unfold Heap.alloc at h
  simp only at h
  split at h
  · rename_i hn
    split at h
    · rename_i hl
      simp only [Option.some.injEq, Prod.mk.injEq] at h
      obtain ⟨rfl, rfl⟩ := h
      exact ⟨rfl, hn, hl, rfl⟩
    · cases h
  · cases h

theorem alloc_put {id : Nat} (o : AObj) (h1 : H.get id = none) (h2 : id < H.next) : H.alloc (some id) o = some (id, H.put id o) := by
  unfold Heap.alloc
  simp only [h1, if_pos h2, Heap.put]

/-- operations that make an object -/
theorem opLocal_new {o : Op} {id : Nat} {v : AV} (hc : cls P o = .new) (h : opLocal P s (some id) o = some (v, H')) :
    ∃ ob, s.H.get id = none ∧ H' = s.H.put id ob ∧ ∀ H2 : Heap, H2.get id = none → id < H2.next → opLocal P { s with H := H2 } (some id) o = some (v, H2.put id ob) := by
  cases o with
  | alloc e =>
    simp only [opLocal, newRow, Option.bind_eq_some_iff] at *
    obtain ⟨z, hz, ⟨j, H1⟩, hn, h⟩ := h
    simp only [Option.some.injEq, Prod.mk.injEq] at h
    obtain ⟨rfl, rfl⟩ := h
    obtain ⟨rfl, h1, h2, rfl⟩ := alloc_some hn
    exact ⟨_, h1, rfl, fun H2 h3 h4 => ⟨z, hz, _, alloc_put _ h3 h4, rfl⟩⟩
  | box e x =>
    simp only [opLocal, newRow, eval_H, Option.bind_eq_some_iff] at *
    obtain ⟨z, hz, h⟩ := h
    by_cases hk : z.known = false
    · rw [if_pos hk] at h; cases h
    rw [if_neg hk] at h
    simp only [Option.bind_eq_some_iff] at h
    obtain ⟨⟨j, H1⟩, hn, h⟩ := h
    simp only [Option.some.injEq, Prod.mk.injEq] at h
    obtain ⟨rfl, rfl⟩ := h
    obtain ⟨rfl, h1, h2, rfl⟩ := alloc_some hn
    refine ⟨_, h1, rfl, fun H2 h3 h4 => ⟨z, hz, ?_⟩⟩
    rw [if_neg hk, alloc_put _ h3 h4]; rfl
  | buildSlice t n ps =>
    simp only [opLocal, evalParts_H, Option.bind_eq_some_iff] at *
    obtain ⟨qs, hq, h⟩ := h
    unfold buildSlice at h
    split at h
    · rename_i e hu
      simp only [Option.bind_eq_some_iff] at h
      obtain ⟨m, hm, h⟩ := h
      split at h
      · rename_i hsm
        simp only [Option.bind_eq_some_iff] at h
        obtain ⟨z, hz, h⟩ := h
        split at h
        · rename_i hl
          simp only [Option.bind_eq_some_iff, newRow] at h
          obtain ⟨cs, hcs, ⟨j, H1⟩, hn, h⟩ := h
          simp only [Option.some.injEq, Prod.mk.injEq] at h
          obtain ⟨rfl, rfl⟩ := h
          obtain ⟨rfl, h1, h2, rfl⟩ := alloc_some hn
          refine ⟨_, h1, rfl, fun H2 h3 h4 => ⟨qs, hq, ?_⟩⟩
          simp only [buildSlice, hu, hm, Option.bind_some, if_pos hsm, hz, if_pos hl, hcs, newRow, alloc_put _ h3 h4]
        · cases h
      · cases h
    · cases h
  | makeSlice t l c =>
    simp only [opLocal, eval_H, Option.bind_eq_some_iff] at *
    obtain ⟨lv, hl, cv, hcv, h⟩ := h
    unfold makeSlice at h
    split at h
    · rename_i e k1 n1 k2 n2 hu
      simp only [Option.bind_eq_some_iff] at h
      obtain ⟨m, hm, b, hb, h⟩ := h
      split at h
      · rename_i hsm
        simp only [Option.bind_eq_some_iff] at h
        obtain ⟨z, hz, h⟩ := h
        split at h
        · rename_i hzl
          simp only [Option.bind_eq_some_iff, newRow] at h
          obtain ⟨⟨j, H1⟩, hn, h⟩ := h
          simp only [Option.some.injEq, Prod.mk.injEq] at h
          obtain ⟨rfl, rfl⟩ := h
          obtain ⟨rfl, h1, h2, rfl⟩ := alloc_some hn
          refine ⟨_, h1, rfl, fun H2 h3 h4 => ⟨_, hl, _, hcv, ?_⟩⟩
          simp only [makeSlice, hu, hm, hb, Option.bind_some, if_pos hsm, hz, if_pos hzl, newRow, alloc_put _ h3 h4]
        · cases h
      · cases h
    · cases h
  | makeMap t r =>
    cases r with
    | none =>
      simp only [opLocal, Option.bind_eq_some_iff] at *
      obtain ⟨⟨j, H1⟩, hn, h⟩ := h
      simp only [Option.some.injEq, Prod.mk.injEq] at h
      obtain ⟨rfl, rfl⟩ := h
      obtain ⟨rfl, h1, h2, rfl⟩ := alloc_some hn
      exact ⟨_, h1, rfl, fun H2 h3 h4 => ⟨_, alloc_put _ h3 h4, rfl⟩⟩
    | some x =>
      simp only [opLocal, eval_H] at *
      split at h
      · rename_i kt et hu
        simp only [Option.bind_eq_some_iff] at h
        obtain ⟨xv, hx, h⟩ := h
        split at h
        · rename_i k n
          simp only [Option.bind_eq_some_iff] at h
          obtain ⟨⟨j, H1⟩, hn, h⟩ := h
          simp only [Option.some.injEq, Prod.mk.injEq] at h
          obtain ⟨rfl, rfl⟩ := h
          obtain ⟨rfl, h1, h2, rfl⟩ := alloc_some hn
          refine ⟨_, h1, rfl, fun H2 h3 h4 => ?_⟩
          simp only [hx, Option.bind_some, alloc_put _ h3 h4]
        · cases h
      · cases h
  | convert src dst x =>
    simp only [cls, clsConvert] at hc
    simp only [opLocal, eval_H, Option.bind_eq_some_iff] at *
    obtain ⟨xv, hx, h⟩ := h
    split at hc <;> try (cases hc; done)
    rename_i e1 e2 hd hs
    unfold convert at h
    rw [hd, hs] at h
    split at h <;> simp_all
    rename_i e s
    split at h
    · rename_i he
      split at h
      · rename_i hsz
        simp only [newRow, Option.bind_eq_some_iff] at h
        obtain ⟨⟨j, H1⟩, hn, h⟩ := h
        simp only [Option.some.injEq, Prod.mk.injEq] at h
        obtain ⟨rfl, rfl⟩ := h
        obtain ⟨rfl, h1, h2, rfl⟩ := alloc_some hn
        refine ⟨h1, _, rfl, fun H2 h3 h4 => ?_⟩
        simp [convert, hd, hs, he, hsz, newRow, alloc_put _ h3 h4]
      · cases h
    · cases h
  | call c =>
    obtain ⟨callee, args, ats⟩ := c
    cases callee with
    | builtin b => cases b <;> simp only [cls, clsLen, reduceCtorEq] at hc; split at hc <;> cases hc
    | _ => simp [cls] at hc
  | _ => simp [cls] at hc

/-- the objects of one heap are among those of another -/
structure Sub (Hb G : Heap) : Prop where
  next : Hb.next = G.next
  get : ∀ i o, Hb.get i = some o → o.live → G.get i = some o

theorem Rel.sub [Base] {G Hb : Heap} (hr : Rel P ρ G w) (h : Sub Hb G) : Rel P ρ Hb w :=
  ⟨fun i o hi hl => hr.obj i o (h.get i o hi hl) hl, fun i j o o' e e' hi hl hj hl' => hr.inj i j o o' e e' (h.get i o hi hl) hl (h.get j o' hj hl') hl', hr.rng, fun i e he => h.next ▸ hr.nxt i e he, fun b o hk => ⟨(hr.kept b o hk).1, fun i q e hi hl he => (hr.kept b o hk).2 i q e (h.get i q hi hl) hl he⟩⟩

/-- what lies beside stays -/
theorem Rel.beside [Base] {at_ : Option Nat} {G Hb H' G' : Heap} (hr : Rel P ρ G w) (hs : Sub Hb G) (hst : Step at_ ρ Hb w ρ' H' w') (hr' : Rel P ρ' H' w') (hn : G'.next = H'.next)
    (hg : ∀ i o, G'.get i = some o → o.live → H'.get i = some o ∨ (G.get i = some o ∧ ∀ o', Hb.get i = some o' → ¬ o'.live)) :
    Rel P ρ' G' w' ∧ (∀ i, ρ' i = none → ρ i = none) := by
  have hkeep : ∀ i o, G.get i = some o → o.live → (∀ o', Hb.get i = some o' → ¬ o'.live) → ∃ e, ρ i = some e ∧ ρ' i = some e ∧ ORel P ρ e o w.heap[e.blk]? ∧ w'.heap[e.blk]? = w.heap[e.blk]? := by
    intro i o hi hl hb
    obtain ⟨e, he, ho⟩ := hr.obj i o hi hl
    refine ⟨e, he, hst.ext i e he, ho, hst.frame e.blk (hr.rng i e he) ?_⟩
    intro j q f hj hql hf hblk
    have := hr.inj j i q o f e (hs.get j q hj hql) hql hi hl hf he hblk
    subst this
    exact hb q hj hql
  refine ⟨⟨?_, ?_, hr'.rng, fun i e he => hn ▸ hr'.nxt i e he, fun b o hk => ⟨(hr'.kept b o hk).1, fun i q e hi hl he => ?_⟩⟩, fun i hi => ?_⟩
  · intro i o hi hl
    rcases hg i o hi hl with h | ⟨h, hb⟩
    · exact hr'.obj i o h hl
    · obtain ⟨e, he, he', ho, hw⟩ := hkeep i o h hl hb
      exact ⟨e, he', by rw [hw]; exact ORel.mono hst.ext _ _ _ ho⟩
  · have cross : ∀ i j o o' e e', H'.get i = some o → o.live → ρ' i = some e → G.get j = some o' → o'.live → (∀ q, Hb.get j = some q → ¬ q.live) → ρ' j = some e' → e.blk = e'.blk → False := by
      intro i j o o' e e' hi hl he hj hl' hb he' hblk
      obtain ⟨f, hf, hf', _, _⟩ := hkeep j o' hj hl' hb
      rw [he'] at hf'; simp only [Option.some.injEq] at hf'; subst hf'
      have hlt := hr.rng j e' hf
      obtain ⟨k, q, g, hk, hql, hgk, hgb⟩ := hst.live i o e hi hl he (by omega)
      have := hr.inj k j q o' g e' (hs.get k q hk hql) hql hj hl' hgk hf (by omega)
      subst this
      exact hb q hk hql
    intro i j o o' e e' hi hl hj hl' he he' hblk
    rcases hg i o hi hl with h | ⟨h, hb⟩
    · rcases hg j o' hj hl' with h' | ⟨h', hb'⟩
      · exact hr'.inj i j o o' e e' h hl h' hl' he he' hblk
      · exact (cross i j o o' e e' h hl he h' hl' hb' he' hblk).elim
    · rcases hg j o' hj hl' with h' | ⟨h', hb'⟩
      · exact (cross j i o' o e' e h' hl' he' h hl hb he hblk.symm).elim
      · obtain ⟨f, hf, hf', _, _⟩ := hkeep i o h hl hb
        obtain ⟨g, hgg, hg', _, _⟩ := hkeep j o' h' hl' hb'
        rw [he] at hf'; rw [he'] at hg'
        simp only [Option.some.injEq] at hf' hg'; subst hf'; subst hg'
        exact hr.inj i j o o' e e' h hl h' hl' hf hgg hblk
  · rcases hg i q hi hl with h | ⟨h, hb⟩
    · exact (hr'.kept b o hk).2 i q e h hl he
    · obtain ⟨f, hf, hf', _, _⟩ := hkeep i q h hl hb
      rw [he] at hf'; simp only [Option.some.injEq] at hf'; subst hf'
      exact (hr.kept b o hk).2 i q e h hl hf
  · cases hc : ρ i with
    | none => rfl
    | some e => rw [hst.ext i e hc] at hi; cases hi

/-- the step, seen from the larger heaps, and from what lay before -/
theorem Step.beside [Base] {at_ : Option Nat} {ρ0 : Ren} {H0 G Hb H' G' : Heap} {w0 : World} (h0 : Step none ρ0 H0 w0 ρ G w) (hr : Rel P ρ G w) (hs : Sub Hb G) (hst : Step at_ ρ Hb w ρ' H' w') (hn : G'.next = H'.next)
    (hat : ∀ i, at_ = some i → H0.next ≤ i ∧ i < G.next)
    (hg : ∀ i o, G'.get i = some o → o.live → H'.get i = some o ∨ (G.get i = some o ∧ ∀ o', Hb.get i = some o' → ¬ o'.live)) : Step none ρ0 H0 w0 ρ' G' w' := by
  have h1 : Step at_ ρ G w ρ' G' w' := by
    refine ⟨hst.ext, ?_, by rw [← hs.next, hn]; exact hst.nle, hst.size, ?_, ?_, hst.os, hst.tape, hst.output, ?_⟩
    · intro i e h1 h2; rw [← hs.next]; exact hst.new i e h1 h2
    · intro b hb hn'
      exact hst.frame b hb fun i o e hi hl he => hn' i o e (hs.get i o hi hl) hl he
    · intro i o e hi hl he hb
      rcases hg i o hi hl with h | ⟨h, _⟩
      · obtain ⟨j, q, f, hj, hql, hf, hfb⟩ := hst.live i o e h hl he hb
        exact ⟨j, q, f, hs.get j q hj hql, hql, hf, hfb⟩
      · obtain ⟨f, hf, _⟩ := hr.obj i o h hl
        have := hst.ext i f hf
        rw [he] at this; simp only [Option.some.injEq] at this; subst this
        exact ⟨i, o, e, h, hl, hf, rfl⟩
    · intro i hi hnl ha o ho hl
      rcases hg i o ho hl with h | ⟨h, _⟩
      · exact hst.old i (by rw [hs.next]; exact hi) (fun q hq hql => hnl q (hs.get i q hq hql) hql) ha o h hl
      · exact hnl o h hl
  refine ⟨Ren.le_trans h0.ext h1.ext, ?_, Nat.le_trans h0.nle h1.nle, Nat.le_trans h0.size h1.size, ?_, ?_, h1.os.trans h0.os, h1.tape.trans h0.tape, h1.output.trans h0.output, ?_⟩
  · intro i e k0 k2
    cases k1 : ρ i with
    | none =>
      rcases h1.new i e k1 k2 with h3 | h3
      · exact .inl (Nat.le_trans h0.nle h3)
      · exact .inl (hat i h3).1
    | some e1 => exact (h0.new i e1 k0 k1)
  · intro b hb hn'
    rw [h1.frame b (Nat.lt_of_lt_of_le hb h0.size) ?_, h0.frame b hb hn']
    intro i o e hi hl hr' he
    obtain ⟨j, o', e', hj, hl', hr'', hb'⟩ := h0.live i o e hi hl hr' (he ▸ hb)
    exact hn' j o' e' hj hl' hr'' (hb'.trans he)
  · intro i o e hi hl hr' hb
    obtain ⟨j, o', e', hj, hl', hr'', hb'⟩ := h1.live i o e hi hl hr' (Nat.lt_of_lt_of_le hb h0.size)
    obtain ⟨j2, o2, e2, hj2, hl2, hr2, hb2⟩ := h0.live j o' e' hj hl' hr'' (hb' ▸ hb)
    exact ⟨j2, o2, e2, hj2, hl2, hr2, hb2.trans hb'⟩
  · intro i hi hnl ha o ho hl
    have hne : at_ ≠ some i := fun h => by have := (hat i h).1; omega
    exact h1.old i (Nat.lt_of_lt_of_le hi h0.nle) (h0.old i hi hnl ha) hne o ho hl
end
end AE
/- The abstract evaluator: regions that draw their order. What is checked of them once. Conditions: none. -/
namespace AE
open Go

/-! ### what is checked of a region -/

def maskOf : List (Nat × Nat) → Nat → Nat
  | [], _ => 0
  | p :: acc, i => if p.1 = i then p.2 else maskOf acc i

def closeMask (acc : List (Nat × Nat)) : List Edge → Nat
  | [] => 0
  | e :: es => if bindsAny e then closeMask acc es ||| (2 ^ e.on ||| maskOf acc e.on) else closeMask acc es

/-- may j, which comes ahead of i in the plan, be left in another place? -/
def pairOk (P : Program) (ops : Array Oper) (o : Oper) (again : List Nat) (m : Nat) (j : Nat) : Bool :=
  match ops[j]? with
  | none => false
  | some oj =>
    (m.testBit j || (match cls P oj.op, cls P o.op with
      | .eff, .eff | .eff, .read | .new, .eff | .new, .read => false
      | .read, .eff => again.contains j
      | _, _ => true)) &&
    (match oj.dst with
      | some t => (m.testBit j || !(o.looksAt ops).contains t) && !(o.dst == some t)
      | none => true) &&
    (match o.dst with
      | some t => !(oj.looksAt ops).contains t || (m.testBit j && (cls P oj.op).rank != 0 || m.testBit j && decide (cls P oj.op = .pure))
      | none => true)

def chk (P : Program) (ops : Array Oper) : List (Nat × Nat) → List (Nat × List Nat) → Bool
  | _, [] => true
  | acc, (i, again) :: l => match ops[i]? with
    | none => false
    | some o =>
      (o.after.toList.all fun e => !bindsAny e || acc.any (·.1 == e.on)) && !(acc.any (·.1 == i)) &&
      (match o.dst with
        | some t => !(o.looksAt ops).contains t
        | none => true) &&
      (acc.all fun p => pairOk P ops o again (closeMask acc o.after.toList) p.1) && chk P ops ((i, closeMask acc o.after.toList) :: acc) l

def drawPlan (P : Program) (ops : Array Oper) : List (Nat × List Nat) := planD P ops [] (orderD P ops ops.size [])

/-- Is a region that draws one that the abstract evaluator may run in its own order? -/
def drawOk (P : Program) (ops : Array Oper) : Bool :=
  (drawPlan P ops).length == ops.size && chk P ops [] (drawPlan P ops) && (List.range ops.size).all fun i => (drawPlan P ops).any (·.1 == i)

/-- j has to be ahead of i -/
inductive Anc (ops : Array Oper) : Nat → Nat → Prop
  | edge {i : Nat} {o : Oper} {e : Edge} : ops[i]? = some o → e ∈ o.after.toList → bindsAny e = true → Anc ops i e.on
  | more {i : Nat} {o : Oper} {e : Edge} {j : Nat} : ops[i]? = some o → e ∈ o.after.toList → bindsAny e = true → Anc ops e.on j → Anc ops i j

section
variable {P : Program} {ops : Array Oper}

theorem maskOf_anc {acc : List (Nat × Nat)} (h : ∀ p ∈ acc, ∀ j, p.2.testBit j = true → Anc ops p.1 j) (i j : Nat) (hj : (maskOf acc i).testBit j = true) : Anc ops i j := by
  induction acc with
  | nil => simp [maskOf] at hj
  | cons p acc ih =>
    simp only [maskOf] at hj
    split at hj
    · rename_i e; subst e; exact h p (by simp) j hj
    · exact ih (fun q hq => h q (by simp [hq])) hj

theorem closeMask_anc {acc : List (Nat × Nat)} (h : ∀ p ∈ acc, ∀ j, p.2.testBit j = true → Anc ops p.1 j) {i : Nat} {o : Oper} (ho : ops[i]? = some o) : ∀ (es : List Edge), (∀ e ∈ es, e ∈ o.after.toList) →
    ∀ j, (closeMask acc es).testBit j = true → Anc ops i j
  | [], _, j, hj => by simp [closeMask] at hj
  | e :: es, hes, j, hj => by
    simp only [closeMask] at hj
    split at hj
    · rename_i hb
      simp only [Nat.testBit_or, Bool.or_eq_true, Nat.testBit_two_pow, decide_eq_true_eq] at hj
      rcases hj with hj | hj | hj
      · exact closeMask_anc h ho es (fun e he => hes e (by simp [he])) j hj
      · subst hj; exact .edge ho (hes e (by simp)) hb
      · exact .more ho (hes e (by simp)) hb (maskOf_anc h _ _ hj)
    · exact closeMask_anc h ho es (fun e he => hes e (by simp [he])) j hj

/-- what is known of two operations, j ahead of i in the plan -/
structure Pair (P : Program) (ops : Array Oper) (i : Nat) (o : Oper) (again : List Nat) (j : Nat) (oj : Oper) : Prop where
  effEff : cls P oj.op = .eff → cls P o.op = .eff → Anc ops i j
  effRead : cls P oj.op = .eff → cls P o.op = .read → Anc ops i j
  newEff : cls P oj.op = .new → cls P o.op = .eff → Anc ops i j
  newRead : cls P oj.op = .new → cls P o.op = .read → Anc ops i j
  readEff : cls P oj.op = .read → cls P o.op = .eff → Anc ops i j ∨ j ∈ again
  data : ∀ t, oj.dst = some t → t ∈ o.looksAt ops → Anc ops i j
  once : ∀ t, oj.dst = some t → o.dst ≠ some t
  anti : ∀ t, o.dst = some t → t ∈ oj.looksAt ops → Anc ops i j ∧ cls P oj.op ≠ .read

theorem pairOk_spec {i : Nat} {o : Oper} {again : List Nat} {m j : Nat} (hm : ∀ j, m.testBit j = true → Anc ops i j) (h : pairOk P ops o again m j = true) :
    ∃ oj, ops[j]? = some oj ∧ Pair P ops i o again j oj := by
  unfold pairOk at h
  split at h
  · cases h
  · rename_i oj hoj
    simp only [Bool.and_eq_true, Bool.or_eq_true] at h
    obtain ⟨⟨h1, h2⟩, h3⟩ := h
    refine ⟨oj, hoj, ?_, ?_, ?_, ?_, ?_, ?_, ?_, ?_⟩
    · intro c d; rw [c, d] at h1; exact hm j (by simpa using h1)
    · intro c d; rw [c, d] at h1; exact hm j (by simpa using h1)
    · intro c d; rw [c, d] at h1; exact hm j (by simpa using h1)
    · intro c d; rw [c, d] at h1; exact hm j (by simpa using h1)
    · intro c d
      rw [c, d] at h1
      rcases h1 with h1 | h1
      · exact .inl (hm j h1)
      · exact .inr (by simpa using h1)
    · intro t ht hl
      rw [ht] at h2
      simp only [Bool.and_eq_true, Bool.or_eq_true, Bool.not_eq_true', List.contains_eq_mem, decide_eq_false_iff_not] at h2
      rcases h2.1 with h | h
      · exact hm j h
      · exact absurd hl h
    · intro t ht he
      rw [ht] at h2
      simp [he] at h2
    · intro t ht hl
      rw [ht] at h3
      simp only [List.contains_eq_mem, hl, decide_true, Bool.not_true, Bool.false_or, Bool.or_eq_true, Bool.and_eq_true, bne_iff_ne, ne_eq, decide_eq_true_eq] at h3
      rcases h3 with ⟨h3, h4⟩ | ⟨h3, h4⟩
      · exact ⟨hm j h3, fun c => h4 (by rw [c]; rfl)⟩
      · exact ⟨hm j h3, fun c => by rw [c] at h4; cases h4⟩

/-- what is known of a place of the plan -/
structure PlanAt (P : Program) (ops : Array Oper) (before : Nat → Prop) (i : Nat) (again : List Nat) (o : Oper) : Prop where
  op : ops[i]? = some o
  edges : ∀ e ∈ o.after.toList, bindsAny e = true → before e.on
  fresh : ¬ before i
  self : ∀ t, o.dst = some t → t ∉ o.looksAt ops
  pairs : ∀ j, before j → ∃ oj, ops[j]? = some oj ∧ Pair P ops i o again j oj

theorem chk_spec : ∀ (l : List (Nat × List Nat)) (acc : List (Nat × Nat)), chk P ops acc l = true → (∀ p ∈ acc, ∀ j, p.2.testBit j = true → Anc ops p.1 j) →
    ∀ (k i : Nat) (again : List Nat), l[k]? = some (i, again) → ∃ o, PlanAt P ops (fun j => (∃ p ∈ acc, p.1 = j) ∨ ∃ (k' : Nat) (ag : List Nat), k' < k ∧ l[k']? = some (j, ag)) i again o
  | [], acc, _, _, k, i, again, hk => by simp at hk
  | (i0, again0) :: l, acc, h, hacc, k, i, again, hk => by
    simp only [chk] at h
    split at h
    · cases h
    · rename_i o ho
      simp only [Bool.and_eq_true] at h
      obtain ⟨⟨⟨⟨h1, h2⟩, hs⟩, h3⟩, h4⟩ := h
      have hm := closeMask_anc hacc ho o.after.toList (fun e he => he)
      cases k with
      | zero =>
        simp only [List.getElem?_cons_zero, Option.some.injEq, Prod.mk.injEq] at hk
        obtain ⟨rfl, rfl⟩ := hk
        refine ⟨o, ho, ?_, ?_, ?_, ?_⟩
        · intro e he hb
          have := List.all_eq_true.1 h1 e he
          simp only [hb, Bool.not_true, Bool.false_or, List.any_eq_true, beq_iff_eq] at this
          exact .inl this
        · rintro (⟨p, hp, he⟩ | ⟨k', ag, hk', _⟩)
          · have : acc.any (fun x => x.1 == i0) = true := List.any_eq_true.2 ⟨p, hp, by simpa using he⟩
            simp [this] at h2
          · omega
        · intro t ht hl
          rw [ht] at hs
          simp [hl] at hs
        · rintro j (⟨p, hp, rfl⟩ | ⟨k', ag, hk', _⟩)
          · exact pairOk_spec hm (List.all_eq_true.1 h3 p hp)
          · omega
      | succ k =>
        simp only [List.getElem?_cons_succ] at hk
        obtain ⟨o', hp⟩ := chk_spec l _ h4 (by
          intro p hp j hj
          rcases List.mem_cons.1 hp with rfl | hp
          · exact hm j hj
          · exact hacc p hp j hj) k i again hk
        have conv : ∀ j, ((∃ p ∈ (i0, closeMask acc o.after.toList) :: acc, p.1 = j) ∨ ∃ (k' : Nat) (ag : List Nat), k' < k ∧ l[k']? = some (j, ag)) ↔
            ((∃ p ∈ acc, p.1 = j) ∨ ∃ (k' : Nat) (ag : List Nat), k' < k + 1 ∧ ((i0, again0) :: l)[k']? = some (j, ag)) := by
          intro j
          constructor
          · rintro (⟨p, hp, rfl⟩ | ⟨k', ag, hk', hl⟩)
            · rcases List.mem_cons.1 hp with rfl | hp
              · exact .inr ⟨0, again0, by omega, by simp⟩
              · exact .inl ⟨p, hp, rfl⟩
            · exact .inr ⟨k' + 1, ag, by omega, by simpa using hl⟩
          · rintro (⟨p, hp, rfl⟩ | ⟨k', ag, hk', hl⟩)
            · exact .inl ⟨p, List.mem_cons_of_mem _ hp, rfl⟩
            · cases k' with
              | zero =>
                simp only [List.getElem?_cons_zero, Option.some.injEq, Prod.mk.injEq] at hl
                exact .inl ⟨_, List.mem_cons_self .., hl.1⟩
              | succ k' => exact .inr ⟨k', ag, by omega, by simpa using hl⟩
        exact ⟨o', hp.op, fun e he hb => (conv _).1 (hp.edges e he hb), fun h => hp.fresh ((conv _).2 h), hp.self, fun j hj => hp.pairs j ((conv _).2 hj)⟩

/-- what is known of the plan of a region that was checked -/
structure Plan (P : Program) (ops : Array Oper) (L : List (Nat × List Nat)) : Prop where
  len : L.length = ops.size
  at_ : ∀ (k i : Nat) (again : List Nat), L[k]? = some (i, again) → ∃ o, PlanAt P ops (fun j => ∃ (k' : Nat) (ag : List Nat), k' < k ∧ L[k']? = some (j, ag)) i again o
  onto : ∀ i, i < ops.size → ∃ (k : Nat) (ag : List Nat), L[k]? = some (i, ag)

theorem drawOk_plan (h : drawOk P ops = true) : Plan P ops (drawPlan P ops) := by
  unfold drawOk at h
  simp only [Bool.and_eq_true, beq_iff_eq] at h
  obtain ⟨⟨h1, h2⟩, h3⟩ := h
  refine ⟨h1, fun k i again hk => ?_, fun i hi => ?_⟩
  · obtain ⟨o, ho⟩ := chk_spec _ [] h2 (by simp) k i again hk
    have conv : ∀ j, ((∃ p ∈ ([] : List (Nat × Nat)), p.1 = j) ∨ ∃ (k' : Nat) (ag : List Nat), k' < k ∧ (drawPlan P ops)[k']? = some (j, ag)) ↔ ∃ (k' : Nat) (ag : List Nat), k' < k ∧ (drawPlan P ops)[k']? = some (j, ag) := by
      intro j; simp
    exact ⟨o, ho.op, fun e he hb => (conv _).1 (ho.edges e he hb), fun h => ho.fresh ((conv _).2 h), ho.self, fun j hj => ho.pairs j ((conv _).2 hj)⟩
  · have := List.all_eq_true.1 h3 i (by simpa using hi)
    obtain ⟨p, hp, he⟩ := List.any_eq_true.1 this
    obtain ⟨k, hk⟩ := List.getElem?_of_mem hp
    simp only [beq_iff_eq] at he
    subst he
    exact ⟨k, p.2, hk⟩
end
end AE

/- The abstract evaluator: regions that draw their order. The trace of the plan. Conditions: none. -/
namespace AE
open Go

section
variable {P : Program} {callF : CallF} {ops : Array Oper} {base : Nat} {L : List (Nat × List Nat)} {st : Nat → St} {ρ : Ren} {w : World} {s s' : St} {a : Act}

/-- the plan, run -/
def Trace (P : Program) (callF : CallF) (ops : Array Oper) (base : Nat) (L : List (Nat × List Nat)) (st : Nat → St) : Prop :=
  ∀ (k i : Nat) (again : List Nat), L[k]? = some (i, again) → ∃ o, ops[i]? = some o ∧
    execW P callF ops (st k) (if cls P o.op = .new then some (base + i) else none) o = some (st (k + 1)) ∧ again.all (stillD P ops (st (k + 1))) = true

theorem trace_of : ∀ (L : List (Nat × List Nat)) (s s' : St), execPlan P callF ops base L s = some s' → ∃ st : Nat → St, st 0 = s ∧ st L.length = s' ∧ Trace P callF ops base L st
  | [], s, s', h => by
    simp only [execPlan, Option.some.injEq] at h; subst h
    exact ⟨fun _ => s, rfl, rfl, fun k i again hk => by simp at hk⟩
  | (i, again) :: L, s, s', h => by
    simp only [execPlan, Option.bind_eq_some_iff] at h
    obtain ⟨o, ho, s1, h1, h⟩ := h
    split at h
    · rename_i hall
      obtain ⟨st, h2, h3, h4⟩ := trace_of L s1 s' h
      refine ⟨fun k => match k with | 0 => s | k + 1 => st k, rfl, h3, ?_⟩
      intro k j ag hk
      cases k with
      | zero =>
        simp only [List.getElem?_cons_zero, Option.some.injEq, Prod.mk.injEq] at hk
        obtain ⟨rfl, rfl⟩ := hk
        refine ⟨o, ho, ?_, ?_⟩
        · show execW P callF ops s _ o = some (st 0)
          rw [h2]; exact h1
        · show again.all (stillD P ops (st 0)) = true
          rw [h2]; exact hall
      | succ k => exact h4 k j ag (by simpa using hk)
    · cases h

theorem execOper_shape {at_ : Option Nat} {o : Oper} (h : execOper P callF s at_ o = some s') : ∃ v, s' = ({ s with H := s'.H, ds := s'.ds }).set o.dst v := by
  unfold execOper at h
  split at h
  · split at h <;> simp only [Option.bind_eq_some_iff] at h
    · obtain ⟨⟨v, H'⟩, h, he⟩ := h
      simp only [Option.some.injEq] at he; subst he
      exact ⟨v, by rw [set_H, set_ds]⟩
    · obtain ⟨⟨f, vs⟩, ht, ⟨v, H'⟩, hcall, he⟩ := h
      simp only [Option.some.injEq] at he; subst he
      exact ⟨v, by rw [set_H, set_ds]⟩
  · simp only [Option.bind_eq_some_iff] at h
    obtain ⟨d, ht, he⟩ := h
    simp only [Option.some.injEq] at he; subst he
    exact ⟨.undef, by rw [set_H, set_ds]⟩
  · simp only [Option.bind_eq_some_iff] at h
    obtain ⟨⟨v, H'⟩, h, he⟩ := h
    simp only [Option.some.injEq] at he; subst he
    exact ⟨v, by rw [set_H, set_ds]⟩

theorem execOper_local {at_ : Option Nat} {o : Oper} (hc : cls P o.op ≠ .eff) (h : execOper P callF s at_ o = some s') : ∃ v H', opLocal P s at_ o.op = some (v, H') ∧ s' = ({ s with H := H' }).set o.dst v := by
  unfold execOper at h
  split at h
  · rename_i c hop
    split at h <;> simp only [Option.bind_eq_some_iff] at h
    · obtain ⟨⟨v, H'⟩, h, he⟩ := h
      simp only [Option.some.injEq] at he; subst he
      exact ⟨v, H', h, rfl⟩
    · rename_i hb
      exfalso
      apply hc
      rw [hop]
      obtain ⟨callee, args, ats⟩ := c
      cases callee with
      | builtin b => simp [isBuiltin] at hb
      | _ => rfl
  · rename_i c hop
    exact absurd (by rw [hop]; rfl) hc
  · simp only [Option.bind_eq_some_iff] at h
    obtain ⟨⟨v, H'⟩, h, he⟩ := h
    simp only [Option.some.injEq] at he; subst he
    exact ⟨v, H', h, rfl⟩

/-- operations that look leave the heap -/
theorem opLocal_look {o : Op} {at_ : Option Nat} {v : AV} {H' : Heap} (hc : (cls P o).rank = 0) (h : opLocal P s at_ o = some (v, H')) : H' = s.H := by
  cases hcl : cls P o with
  | pure => exact (opLocal_pure hcl h).1
  | new => rw [hcl] at hc; simp [Cls.rank] at hc
  | eff => rw [hcl] at hc; simp [Cls.rank] at hc
  | read =>
    cases o with
    | load t x =>
      simp only [opLocal, Option.bind_eq_some_iff, Option.some.injEq, Prod.mk.injEq] at h
      obtain ⟨_, _, _, _, _, rfl⟩ := h; rfl
    | lookup t x i ok =>
      simp only [opLocal, Option.bind_eq_some_iff, Option.some.injEq, Prod.mk.injEq] at h
      obtain ⟨_, _, _, _, _, _, _, rfl⟩ := h; rfl
    | convert src dst x =>
      simp only [cls, clsConvert] at hcl
      simp only [opLocal, Option.bind_eq_some_iff] at h
      obtain ⟨xv, _, h⟩ := h
      split at hcl <;> try (cases hcl; done)
      rename_i e1 hd
      unfold convert at h
      rw [hd] at h
      split at h <;> first | (cases h; done) | skip
      all_goals first
        | (simp only [Option.some.injEq, Prod.mk.injEq] at h; exact h.2.symm)
        | (rename_i e1' e2'; simp at e2'; done)
        | (split at h <;> first | (cases h; done) | (simp only [Option.some.injEq, Prod.mk.injEq] at h; exact h.2.symm) | (simp only [Option.bind_eq_some_iff, Option.some.injEq, Prod.mk.injEq] at h; obtain ⟨_, _, _, _, _, rfl⟩ := h; rfl))
        | simp_all
    | call c =>
      obtain ⟨callee, args, ats⟩ := c
      cases callee with
      | builtin b =>
        cases b with
        | len =>
          simp only [opLocal, Option.bind_eq_some_iff] at h
          obtain ⟨vs, _, h⟩ := h
          rcases hts : ats.toList with _ | ⟨t, _ | ⟨_, _⟩⟩ <;> rcases vs with _ | ⟨x, _ | ⟨_, _⟩⟩ <;> rw [hts] at h <;> simp only [builtin, reduceCtorEq] at h
          simp only [Option.map_eq_some_iff, Prod.mk.injEq] at h
          obtain ⟨_, _, _, rfl⟩ := h; rfl
        | _ => simp [cls] at hcl
      | _ => simp [cls] at hcl
    | _ => simp [cls] at hcl

/-- an object that the plan makes at place k -/
def MadeAt (P : Program) (ops : Array Oper) (base : Nat) (st : Nat → St) (k i : Nat) (ob : AObj) : Prop :=
  ∃ o, ops[i]? = some o ∧ cls P o.op = .new ∧ wanted (st k) ops o = some true ∧ (st (k + 1)).H = (st k).H.put (base + i) ob

theorem trace_tmp (hT : Trace P callF ops base L st) {k i : Nat} {ag : List Nat} {o : Oper} (hk : L[k]? = some (i, ag)) (ho : ops[i]? = some o) :
    (∀ t, o.dst ≠ some t → (st (k + 1)).tmp t = (st k).tmp t) ∧ (st (k + 1)).n = (st k).n := by
  obtain ⟨o', ho', hx, _⟩ := hT k i ag hk
  rw [ho] at ho'; simp only [Option.some.injEq] at ho'; subst ho'
  unfold execW at hx
  simp only [Option.bind_eq_some_iff] at hx
  obtain ⟨b, hb, hx⟩ := hx
  cases b with
  | false =>
    simp only [Option.some.injEq] at hx
    rw [← hx]
    exact ⟨fun t ht => by rw [tmp_set, if_neg (fun c => ht c.1)], by rw [set_n]⟩
  | true =>
    obtain ⟨v, hv⟩ := execOper_shape hx
    rw [hv]
    exact ⟨fun t ht => by rw [tmp_set, if_neg (fun c => ht c.1)]; rfl, by rw [set_n]⟩

theorem trace_look (hT : Trace P callF ops base L st) {k i : Nat} {ag : List Nat} {o : Oper} (hk : L[k]? = some (i, ag)) (ho : ops[i]? = some o) (hc : cls P o.op ≠ .eff) :
    (st (k + 1)).ds = (st k).ds ∧ ((st (k + 1)).H = (st k).H ∨ ∃ ob, MadeAt P ops base st k i ob) := by
  obtain ⟨o', ho', hx, _⟩ := hT k i ag hk
  rw [ho] at ho'; simp only [Option.some.injEq] at ho'; subst ho'
  unfold execW at hx
  simp only [Option.bind_eq_some_iff] at hx
  obtain ⟨b, hb, hx⟩ := hx
  cases b with
  | false =>
    simp only [Option.some.injEq] at hx
    rw [← hx]
    exact ⟨by rw [set_ds], .inl (by rw [set_H])⟩
  | true =>
    obtain ⟨v, H', h1, h2⟩ := execOper_local hc hx
    refine ⟨by rw [h2, set_ds], ?_⟩
    by_cases hn : cls P o.op = .new
    · rw [if_pos hn] at h1
      obtain ⟨ob, _, h3, _⟩ := opLocal_new hn h1
      refine .inr ⟨ob, o, ho, hn, hb, ?_⟩
      rw [h2, set_H]; exact h3
    · refine .inl ?_
      rw [h2, set_H]
      refine opLocal_look ?_ h1
      cases hcl : cls P o.op with
      | pure => rfl
      | read => rfl
      | new => exact absurd hcl hn
      | eff => exact absurd hcl hc
end
end AE
