/- The abstract evaluator: what an operation that enters no function does, all of them. Conditions: none. -/
import Derived.Test.YtandggoanbdjkaaGreatDoorAEOps10
namespace AE
open Go

section
variable {P : Program} {ρ : Ren} {H : Heap} {w : World} {s : St} {a : Act}

theorem makeMap_run [Base] (hr : Rel P ρ H w) {at_ : Option Nat} {t : TypeId} {r : Option Value} {id : Nat} {H' : Heap} (hat : ∀ i, at_ = some i → ρ i = none)
    (h : H.alloc at_ (.map []) = some (id, H')) (hm : r = none ∨ ∃ k n kt et, r = some (.int k n) ∧ P.underlying t = some (.map kt et)) :
    Made P at_ ρ H w (Instr.makeMap t r) (.map (some id)) H' := by
  have ho : ORel P ρ ⟨w.heap.size, 0, 0⟩ (.map []) (some (.map #[] 0)) := by simp [ORel, ERel]
  obtain ⟨h1, h2, h3⟩ := hr.alloc h hat ho
  refine ⟨_, _, .map (some w.heap.size), ?_, ?_, h1, h2⟩
  · have hnew : (Go.newObj (.map #[] 0)).run P w = .ok w.heap.size (push w (.map #[] 0)) := rfl
    rcases hm with rfl | ⟨k, n, kt, et, rfl, hu⟩
    · simp [Instr.makeMap, hnew]
    · simp [Instr.makeMap, hnew, run_underlying hu, asInt, asIntOf]
  · simp only [VRel]; exact ⟨_, Ren.upd_same, rfl⟩

theorem pu_spec {r : Option Heap} {H' : Heap} {v : AV} (h : (r.bind fun H => some (AV.undef, H)) = some (v, H')) : r = some H' ∧ v = .undef := by
  simp only [Option.bind_eq_some_iff, Option.some.injEq, Prod.mk.injEq] at h
  obtain ⟨_, h1, rfl, rfl⟩ := h
  exact ⟨h1, rfl⟩

theorem Done.weaken [Base] {at_ : Option Nat} {m : Sem Next} {v : AV} {H' : Heap} (h : Done P none ρ H w m v H') : Done P at_ ρ H w m v H' := by
  obtain ⟨ρ', w', u, h1, h2, h3, h4⟩ := h
  exact ⟨ρ', w', u, h1, h2, h3, h4.weaken⟩

set_option maxHeartbeats 1000000 in
theorem opLocal_run [Base] (hr : Rel P ρ s.H w) {o : Oper} {at_ : Option Nat} {v : AV} {H' : Heap} (hs : Sees ρ s a o.op.operands.toList) (hat : ∀ i, at_ = some i → ρ i = none)
    (h : opLocal P s at_ o.op = some (v, H')) : Done P at_ ρ s.H w (execOp a.eval o) v H' := by
  by_cases hc : (cls P o.op).rank = 0
  · obtain ⟨h1, h2⟩ := opLocal_still hr hs hc h
    subst h1
    exact h2.done hr
  obtain ⟨dst, op, ty, pos, after, guard⟩ := o
  dsimp only at *
  cases op with
  | alloc e =>
    simp only [opLocal, Option.bind_eq_some_iff] at h
    obtain ⟨z, hz, ⟨id, H1⟩, hn, h⟩ := h
    simp only [Option.some.injEq, Prod.mk.injEq] at h
    obtain ⟨rfl, rfl⟩ := h
    exact (alloc_run hr hz hat hn).done
  | box e x =>
    simp only [opLocal, Option.bind_eq_some_iff] at h
    obtain ⟨xv, hx, h⟩ := h
    split at h
    · cases h
    rename_i hkn
    simp only [Bool.not_eq_false] at hkn
    simp only [Option.bind_eq_some_iff] at h
    obtain ⟨⟨id, H1⟩, hn, h⟩ := h
    simp only [Option.some.injEq, Prod.mk.injEq] at h
    obtain ⟨rfl, rfl⟩ := h
    exact (box_run hr hkn (hs x (by simp [Op.operands]) xv hx) hat hn).done
  | buildSlice t n ps =>
    simp only [opLocal, Option.bind_eq_some_iff] at h
    obtain ⟨qs, hqs, h⟩ := h
    have hp := evalParts_rel ps.toList qs (hs.sub fun x hx => by simpa [Op.operands] using hx) hqs
    have hb : Made P at_ ρ s.H w (Instr.buildSlice t n (ps.map fun p => (p.1, a.eval p.2))) v H' := buildSlice_run hr (by simpa using hp) hat h
    exact Made.done hb
  | store t x y =>
    simp only [opLocal, Option.bind_eq_some_iff] at h
    obtain ⟨xv, hx, yv, hy, h⟩ := h
    obtain ⟨hz, rfl⟩ := pu_spec (Option.bind_eq_some_iff.2 h)
    obtain ⟨ad, w', h1, h2, h3, h4⟩ := storeVar_run hr hz (hs x (by simp [Op.operands]) xv hx) (hs y (by simp [Op.operands]) yv hy)
    refine Done.weaken (Lays.done ⟨w', ?_, h3, h4⟩)
    simp [Instr.storeAt, Instr.sureAddr, h1, h2]
  | convert src dst x =>
    simp only [opLocal, Option.bind_eq_some_iff] at h
    obtain ⟨xv, hx, h⟩ := h
    exact (convert_run hr (hs x (by simp [Op.operands]) xv hx) hat h).done
  | makeMap t r =>
    cases r with
    | none =>
      simp only [opLocal, Option.bind_eq_some_iff] at h
      obtain ⟨⟨id, H1⟩, hn, h⟩ := h
      simp only [Option.some.injEq, Prod.mk.injEq] at h
      obtain ⟨rfl, rfl⟩ := h
      exact (makeMap_run hr hat hn (.inl rfl)).done
    | some x =>
      simp only [opLocal] at h
      split at h
      · rename_i kt et hu
        simp only [Option.bind_eq_some_iff] at h
        obtain ⟨xv, hx, h⟩ := h
        split at h
        · rename_i k n
          simp only [Option.bind_eq_some_iff] at h
          obtain ⟨⟨id, H1⟩, hn, h⟩ := h
          simp only [Option.some.injEq, Prod.mk.injEq] at h
          obtain ⟨rfl, rfl⟩ := h
          have hx2 := int_rel (hs x (by simp [Op.operands]) _ hx)
          exact (makeMap_run hr hat hn (.inr ⟨k, n, kt, et, by rw [Option.map_some, hx2], hu⟩)).done
        · cases h
      · cases h
  | makeSlice t l c =>
    simp only [opLocal, Option.bind_eq_some_iff] at h
    obtain ⟨lv, hl, cv, hc, h⟩ := h
    exact (makeSlice_run hr (hs l (by simp [Op.operands]) lv hl) (hs c (by simp [Op.operands]) cv hc) hat h).done
  | mapUpdate t m k x =>
    simp only [opLocal, Option.bind_eq_some_iff] at h
    obtain ⟨mv, hm, kv, hk, xv, hx, h⟩ := h
    obtain ⟨hz, rfl⟩ := pu_spec (Option.bind_eq_some_iff.2 h)
    exact Done.weaken (Lays.done (mapUpdate_run hr (hs m (by simp [Op.operands]) mv hm) (hs k (by simp [Op.operands]) kv hk) (hs x (by simp [Op.operands]) xv hx) hz))
  | insert t m k x =>
    simp only [opLocal, Option.bind_eq_some_iff] at h
    obtain ⟨mv, hm, kv, hk, xv, hx, h⟩ := h
    obtain ⟨hz, rfl⟩ := pu_spec (Option.bind_eq_some_iff.2 h)
    exact Done.weaken (Lays.done (mapUpdate_run hr (hs m (by simp [Op.operands]) mv hm) (hs k (by simp [Op.operands]) kv hk) (hs x (by simp [Op.operands]) xv hx) hz))
  | call c =>
    obtain ⟨callee, args, ats⟩ := c
    cases callee with
    | builtin b =>
      simp only [opLocal, Option.bind_eq_some_iff] at h
      obtain ⟨vs, hvs, h⟩ := h
      have hv := evals_rel args.toList vs (hs.sub fun x hx => by simpa [Op.operands, Call.operands] using hx) hvs
      obtain ⟨cs, hrun⟩ := run_builtin (P := P) (w := w) (a := a) (b := b) (args := args) (ats := ats) (dst := dst) (ty := ty) (pos := pos) (after := after) (guard := guard)
      obtain ⟨ρ', w', u, h1, h2, h3, h4⟩ := (builtin_run (ty := ty) (cs := cs) hr hv h).weaken (at_ := at_)
      refine ⟨ρ', w', u, ?_, h2, h3, h4⟩
      rw [hrun, show args.map a.eval = (args.toList.map a.eval).toArray from Array.ext' (by rw [Array.toList_map])]
      exact h1
    | _ => simp [opLocal] at h
  | _ => first | (simp [opLocal] at h; done) | (simp [cls, Cls.rank] at hc; done)
end
end AE
