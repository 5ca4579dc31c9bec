/- The abstract evaluator: maps that are written, interface values, copies, appends. Conditions: none. -/
import Derived.Test.YtandggoanbdjkaaGreatDoorAEOps6
namespace AE
open Go

section
variable {P : Program} {ρ : Ren} {H : Heap} {w : World}

/-- how a step ends that lays something, and answers nothing -/
def Lays [Base] (P : Program) (ρ : Ren) (H : Heap) (w : World) (s : Sem Unit) (H' : Heap) : Prop :=
  ∃ w', s.run P w = .ok () w' ∧ Rel P ρ H' w' ∧ Step none ρ H w ρ H' w'

theorem setObj_run {b : Nat} {o o' : Obj} (h : w.heap[b]? = some o) (ho : ∀ c t f, o ≠ .cells c t f) : (Go.setObj b o').run P w = .ok () (setBlk w b o') := by
  simp only [Go.setObj, Sem.run, h]
  cases o <;> first | rfl | exact absurd rfl (ho _ _ _)

theorem getObj_run {b : Nat} {o : Obj} (h : w.heap[b]? = some o) (ho : ∀ c t f, o ≠ .cells c t f) : (Go.getObj b).run P w = .ok o w := by
  cases o <;> first | exact absurd rfl (ho _ _ _) | simp only [Go.getObj, Sem.run, h]

theorem sameBits_basic {k k' : AV} {kv ov : Value} (hk : VRel ρ k kv) (ho : VRel ρ k' ov) (h : sameKey k k' = some true) (n : Nat) : Instr.sameBits n ov kv = true := by
  unfold sameKey at h
  split at h
  · rename_i a b c d
    rw [int_rel hk, int_rel ho]
    by_cases e : a = c
    · subst e; simp only [if_true, Option.some.injEq, beq_iff_eq] at h; subst h; simp [Instr.sameBits]
    · rw [if_neg e] at h; cases h
  · rw [str_rel hk, str_rel ho]
    simp only [Option.some.injEq] at h
    rw [beq_toListBytes] at h
    have := eq_of_beq h
    unfold Instr.sameBits
    rw [beq_toListBytes, this]
    exact beq_self_eq_true _
  · rw [bool_rel hk, bool_rel ho]
    simp only [Option.some.injEq, beq_iff_eq] at h; subst h; simp [Instr.sameBits]
  · cases h

theorem mapUpdate_run [Base] (hr : Rel P ρ H w) {t : TypeId} {m k v : AV} {mv kv vv : Value} {H' : Heap} (hm : VRel ρ m mv) (hk : VRel ρ k kv) (hv : VRel ρ v vv)
    (h : mapUpdate P t m k v H = some H') : Lays P ρ H w (Instr.mapUpdate t mv kv vv) H' := by
  unfold mapUpdate at h
  split at h
  · rename_i kt e r hu
    split at h
    · rename_i hko
      obtain ⟨d, hd, hkd, hbk⟩ := keyOk_spec hko
      split at h
      · rename_i es hg
        obtain ⟨en, es', c, hen, hw, hrel⟩ := hr.map hg
        rcases map_rel hm with ⟨h1, _⟩ | ⟨i, e1, h1, h2, rfl⟩
        · cases h1
        simp only [Option.some.injEq] at h1; subst h1
        rw [hen] at h2; simp only [Option.some.injEq] at h2; subst h2
        simp only [Option.bind_eq_some_iff] at h
        obtain ⟨q, hf, h⟩ := h
        obtain ⟨q', hfn, hqq⟩ := findKey_run hk hkd es es'.toList 0 q hrel hf
        have hfk : (Instr.findKey kt kv es'.toList).run P w = .ok q' w := by simp [Instr.findKey, run_underlying hd, hfn]
        have hck := checkKey_run (P := P) (w := w) false hk hd hkd
        have hgo := getObj_run (P := P) hw (by simp)
        cases q with
        | none =>
          cases q' with
          | some _ => exact hqq.elim
          | none =>
            simp only [Option.some.injEq] at h; subst h
            have ho : ORel P ρ en (.map (es ++ [(k, v)])) (some (.map (es'.push { key := kv, val := vv, born := c }) (c + 1))) := by
              simp only [ORel, Array.toList_push]
              exact ERel.append _ _ _ _ hrel (by simp only [ERel]; exact ⟨hbk, hk, hv, trivial⟩)
            obtain ⟨h3, h4⟩ := hr.put hg trivial hen ho
            refine ⟨_, ?_, h3, h4⟩
            simp only [Instr.mapUpdate, Sem.run_bind, run_underlying hu, Result.andThen_ok, hgo, hck, hfk]
            exact setObj_run hw (by simp)
        | some p =>
          obtain ⟨j, ov⟩ := p
          cases q' with
          | none => exact hqq.elim
          | some p' =>
            obtain ⟨j', ov'⟩ := p'
            simp only at hqq
            obtain ⟨rfl, _, _, k', en', hk1, hk2, hk3, hk4⟩ := hqq
            simp only [Nat.sub_zero] at hk1 hk2
            simp only [Option.some.injEq] at h; subst h
            have ho : ORel P ρ en (.map (es.modify j fun _ => (k, v))) (some (.map (es'.modify j fun e => { e with key := kv, val := vv }) c)) := by
              simp only [ORel, Array.toList_modify]
              exact ERel.modify hbk hk hv j es es'.toList hrel
            obtain ⟨h3, h4⟩ := hr.put hg trivial hen ho
            refine ⟨_, ?_, h3, h4⟩
            have hold : ((es'[j]?).map (·.key)).getD kv = en'.key := by
              rw [← Array.getElem?_toList, hk2]; rfl
            have hks : (Instr.keyThatStays (((es'[j]?).map (·.key)).getD kv) kv).run P w = .ok kv w := by
              rw [hold]; simp [Instr.keyThatStays, sameBits_basic hk hk4 hk3 10000]
            simp only [Instr.mapUpdate, Sem.run_bind, run_underlying hu, Result.andThen_ok, hgo, hck, hfk, hks]
            exact setObj_run hw (by simp)
      · cases h
    · cases h
  · cases h

theorem mapDelete_run [Base] (hr : Rel P ρ H w) {t tk : TypeId} {ty : TypeId} {m k : AV} {mv kv : Value} {H' : Heap} (hm : VRel ρ m mv) (hk : VRel ρ k kv)
    (h : mapDelete P t m k H = some H') : ∃ w', (Builtin.delete_ #[t, tk] ty #[mv, kv]).run P w = .ok (.tuple #[]) w' ∧ Rel P ρ H' w' ∧ Step none ρ H w ρ H' w' := by
  unfold mapDelete at h
  split at h
  · rename_i kt e hu
    split at h
    · rename_i hko
      obtain ⟨d, hd, hkd, hbk⟩ := keyOk_spec hko
      have hck := fun em => checkKey_run (P := P) (w := w) em hk hd hkd
      split at h
      · simp only [Option.some.injEq] at h; subst h
        rcases map_rel hm with ⟨_, rfl⟩ | ⟨i, e1, h1, _⟩
        · exact ⟨w, by simp [Builtin.delete_, run_underlying hu, hck], hr, Step.refl ..⟩
        · cases h1
      · rename_i r
        split at h
        · rename_i es hg
          obtain ⟨en, es', c, hen, hw, hrel⟩ := hr.map hg
          rcases map_rel hm with ⟨h1, _⟩ | ⟨i, e1, h1, h2, rfl⟩
          · cases h1
          simp only [Option.some.injEq] at h1; subst h1
          rw [hen] at h2; simp only [Option.some.injEq] at h2; subst h2
          simp only [Option.bind_eq_some_iff] at h
          obtain ⟨q, hf, h⟩ := h
          obtain ⟨q', hfn, hqq⟩ := findKey_run hk hkd es es'.toList 0 q hrel hf
          have hfk : (Instr.findKey kt kv es'.toList).run P w = .ok q' w := by simp [Instr.findKey, run_underlying hd, hfn]
          have hgo := getObj_run (P := P) hw (by simp)
          cases q with
          | none =>
            cases q' with
            | some _ => exact hqq.elim
            | none =>
              simp only [Option.some.injEq] at h; subst h
              have hso := setObj_run (P := P) (o' := .map es' c) hw (by simp)
              rw [setBlk_self w _ _ hw] at hso
              exact ⟨w, by simp [Builtin.delete_, run_underlying hu, hck, hgo, hfk, hso], hr, Step.refl ..⟩
          | some p =>
            obtain ⟨j, ov⟩ := p
            cases q' with
            | none => exact hqq.elim
            | some p' =>
              obtain ⟨j', ov'⟩ := p'
              simp only at hqq
              obtain ⟨rfl, _⟩ := hqq
              simp only [Option.some.injEq] at h; subst h
              have ho : ORel P ρ en (.map (es.eraseIdx j)) (some (.map (es'.eraseIdxIfInBounds j) c)) := by
                simp only [ORel]
                have : (es'.eraseIdxIfInBounds j).toList = es'.toList.eraseIdx j := by
                  unfold Array.eraseIdxIfInBounds
                  split
                  · simp
                  · rename_i hn; rw [List.eraseIdx_of_length_le (by simpa using hn)]
                rw [this]
                exact ERel.erase j es es'.toList hrel
              obtain ⟨h3, h4⟩ := hr.put hg trivial hen ho
              refine ⟨_, ?_, h3, h4⟩
              have hso := setObj_run (P := P) (o' := .map (es'.eraseIdxIfInBounds j) c) hw (by simp)
              simp [Builtin.delete_, run_underlying hu, hck, hgo, hfk, hso]
        · cases h
      · cases h
    · cases h
  · cases h

theorem iface_rel {t : TypeId} {x : AV} {v : Value} (h : VRel ρ (.iface t x) v) : ∃ u, v = .iface t u ∧ VRel ρ x u := by
  cases v <;> try (simp [VRel] at h; done)
  simp only [VRel] at h
  obtain ⟨rfl, h⟩ := h
  exact ⟨_, rfl, h⟩

theorem typeAssert_run {x v : AV} {xv : Value} {xt a : TypeId} {ok : Bool} (hx : VRel ρ x xv) (h : typeAssert P x a ok = some v) : Gives P ρ w (Instr.typeAssert xv xt a ok) v := by
  unfold typeAssert at h
  split at h
  · cases h
  · rename_i d hd hu
    cases xv <;> try (simp [VRel] at hx; done)
    cases ok with
    | false => simp at h
    | true =>
      simp only [if_true, Option.map_eq_some_iff] at h
      obtain ⟨z, hz, rfl⟩ := h
      obtain ⟨u, hzr, hu'⟩ := zero_run (P := P) (ρ := ρ) (w := w) hz
      refine ⟨.tuple #[u, .bool false], ?_, by simp [VRel, VRels, hu']⟩
      cases d <;> first
        | exact absurd rfl (hd _)
        | simp [Instr.typeAssert, run_underlying hu, hzr]
  · rename_i d t y hd hu
    obtain ⟨u, rfl, hyu⟩ := iface_rel hx
    by_cases c : t = a
    · subst c
      simp only [if_true, Option.some.injEq] at h
      subst h
      refine ⟨if ok then .tuple #[u, .bool true] else u, ?_, by cases ok <;> simp [VRel, VRels, hyu]⟩
      cases d <;> first
        | exact absurd rfl (hd _)
        | (cases ok <;> simp [Instr.typeAssert, run_underlying hu])
    · rw [if_neg c] at h
      cases ok with
      | false => simp at h
      | true =>
        simp only [if_true, Option.map_eq_some_iff] at h
        obtain ⟨z, hz, rfl⟩ := h
        obtain ⟨uz, hzr, hu'⟩ := zero_run (P := P) (ρ := ρ) (w := w) hz
        refine ⟨.tuple #[uz, .bool false], ?_, by simp [VRel, VRels, hu']⟩
        cases d <;> first
          | exact absurd rfl (hd _)
          | simp [Instr.typeAssert, run_underlying hu, c, hzr]
  · cases h

theorem len_run [Base] (hr : Rel P ρ H w) {t ty : TypeId} {x v : AV} {xv : Value} (hx : VRel ρ x xv) (h : len P t x H = some v) : Gives P ρ w (Builtin.len_ #[t] ty #[xv]) v := by
  unfold len at h
  split at h
  · rename_i s hu
    rw [str_rel hx]
    simp only [Option.some.injEq] at h; subst h
    exact Gives.int (by simp [Builtin.len_, run_underlying hu, goInt])
  · rename_i n e hu
    simp only [Option.some.injEq] at h; subst h
    exact Gives.int (by simp [Builtin.len_, run_underlying hu, goInt])
  · rename_i e a n c ex hu
    simp only [Option.some.injEq] at h; subst h
    cases xv <;> try (cases a <;> simp [VRel] at hx; done)
    rename_i b l' c'
    have hl : n = l' := by
      cases a <;> cases b <;> simp only [VRel] at hx
      · exact hx.1
      · exact hx.1
    subst hl
    exact Gives.int (by simp [Builtin.len_, run_underlying hu, goInt])
  · rename_i e hu
    simp only [Option.some.injEq] at h; subst h
    cases xv <;> try (simp [VRel] at hx; done)
    rename_i b l' c'
    cases b with
    | none => simp [VRel] at hx
    | some b =>
      simp only [VRel] at hx; subst hx
      exact Gives.int (by simp [Builtin.len_, run_underlying hu, goInt])
  · rename_i k e hu
    simp only [Option.some.injEq] at h; subst h
    rcases map_rel hx with ⟨_, rfl⟩ | ⟨i, e1, h1, _⟩
    · exact Gives.int (by simp [Builtin.len_, run_underlying hu, goInt])
    · cases h1
  · rename_i k e r hu
    split at h
    · rename_i es hg
      simp only [Option.some.injEq] at h; subst h
      obtain ⟨en, es', c, hen, hw, hrel⟩ := hr.map hg
      rcases map_rel hx with ⟨h1, _⟩ | ⟨i, e1, h1, h2, rfl⟩
      · cases h1
      simp only [Option.some.injEq] at h1; subst h1
      rw [hen] at h2; simp only [Option.some.injEq] at h2; subst h2
      have hl := ERel.length _ _ hrel
      have hgo := getObj_run (P := P) hw (by simp)
      refine Gives.int ?_
      simp only [Builtin.len_, List.getElem?_toArray, List.getElem?_cons_zero, Sem.run_bind, run_underlying hu, Result.andThen_ok, hgo, Sem.run_pure, goInt]
      rw [hl]; simp
    · cases h
  · rename_i arr hu
    split at h
    · rename_i n e hua
      simp only [Option.some.injEq] at h; subst h
      exact Gives.int (by simp [Builtin.len_, run_underlying hu, run_underlying hua, goInt])
    · cases h
  · cases h
end
end AE
