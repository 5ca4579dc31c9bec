/- The abstract evaluator: code and calls. Conditions: none. -/
import Derived.Test.YtandggoanbdjkaaGreatDoorAERun2
namespace AE
open Go

/-- are the regions fine that draw? -/
def Draws (D : Array Oper → Bool) : Code → Bool
  | .region _ ops draw => !draw || D ops
  | .seq a b => Draws D a && Draws D b
  | .cond _ a b => Draws D a && Draws D b
  | .block _ b | .scope b | .loop b => Draws D b
  | _ => true

section
variable {P : Program} {ρ : Ren} {H : Heap} {w : World} {s : St} {a : Act} {callF : CallF} {D : Array Oper → Bool}

def AExit.toExit : AExit → Exit
  | .normal => .normal
  | .exit id => .exit id
  | .ret => .ret

/-- how a piece of code ends -/
def Fin [Base] (P : Program) (ρ : Ren) (H : Heap) (w : World) (x : AExit) (s' : St) (e : Exit) (a' : Act) (w' : World) : Prop :=
  e = x.toExit ∧ ∃ ρ', Rel P ρ' s'.H w' ∧ FRel P ρ' s' a' ∧ Step none ρ H w ρ' s'.H w'

/-- the rest of a loop, before a round -/
def LoopWp (P : Program) (c : Code) (Q : Exit → Act → World → Prop) (a : Act) (w : World) : Prop :=
  ∀ (b : Frame) (k : List Item) (cs : List Frame), ∃ e a' w', Q e a' w' ∧ Arrives P (lone (b.at a (.code c :: .inLoop c :: k)) cs w) b k cs e a' w'

theorem LoopWp.start {c : Code} {Q : Exit → Act → World → Prop} (h : LoopWp P c Q a w) : (Code.loop c).wp P Q a w := by
  intro b k cs
  obtain ⟨e, a', w', hq, harr⟩ := h b k cs
  exact ⟨e, a', w', hq, .of_steps (.one step_loop) harr⟩

theorem LoopWp.round {c : Code} {Q : Exit → Act → World → Prop} (h : c.wp P (Exit.then (LoopWp P c Q) Q) a w) : LoopWp P c Q a w := by
  intro b k cs
  obtain ⟨e, a₁, w₁, hq, harr⟩ := h b (.inLoop c :: k) cs
  cases e with
  | normal =>
    obtain ⟨e₂, a₂, w₂, hq₂, harr₂⟩ := hq b k cs
    exact ⟨e₂, a₂, w₂, hq₂, .of_steps (Steps.trans harr (.one step_inLoop)) harr₂⟩
  | exit id => exact ⟨_, a₁, w₁, hq, .pass (x := .inLoop c) rfl (fun _ _ => .inl (by simp)) harr⟩
  | goto l => exact ⟨_, a₁, w₁, hq, .pass (x := .inLoop c) rfl (fun _ _ => .inl (by simp)) harr⟩
  | ret => exact ⟨_, a₁, w₁, hq, .pass (x := .inLoop c) rfl (fun _ _ => .inl (by simp)) harr⟩
  | panic ch => exact ⟨_, a₁, w₁, hq, .pass (x := .inLoop c) rfl (fun _ _ => .inl (by simp)) harr⟩
  | outgrown => exact ⟨_, a₁, w₁, hq, .pass (x := .inLoop c) rfl (fun _ _ => .inl (by simp)) harr⟩

theorem LoopWp.mono {c : Code} {Q Q' : Exit → Act → World → Prop} (h : LoopWp P c Q a w) (hq : ∀ e a w, Q e a w → Q' e a w) : LoopWp P c Q' a w := by
  intro b k cs
  obtain ⟨e, a', w', h1, h2⟩ := h b k cs
  exact ⟨e, a', w', hq _ _ _ h1, h2⟩

def LoopOk [Base] (P : Program) (D : Array Oper → Bool) (loopF : Code → St → Option (AExit × St)) : Prop :=
  ∀ b s x s', Draws D b = true → loopF b s = some (x, s') → ∀ ρ a w, Rel P ρ s.H w → FRel P ρ s a → LoopWp P b (Fin P ρ s.H w x s') a w

def DrawOk [Base] (P : Program) (D : Array Oper → Bool) (callF : CallF) : Prop :=
  ∀ id ops s s', D ops = true → execDraw P callF ops s = some s' → ∀ ρ a w, Rel P ρ s.H w → FRel P ρ s a → (Code.region id ops true).wp P (Fin P ρ s.H w .normal s') a w

theorem Fin.trans [Base] {ρ' : Ren} {H' : Heap} {w' : World} {x : AExit} {s' : St} (h : Step none ρ H w ρ' H' w') {e : Exit} {a' : Act} {w'' : World} (k : Fin P ρ' H' w' x s' e a' w'') :
    Fin P ρ H w x s' e a' w'' := by
  obtain ⟨h1, ρ'', h2, h3, h4⟩ := k
  exact ⟨h1, ρ'', h2, h3, h.trans h4⟩

theorem execCode_wp [Base] (hC : CallOk P callF) {loopF : Code → St → Option (AExit × St)} (hL : LoopOk P D loopF) (hD : DrawOk P D callF) : ∀ (c : Code) (s : St) (x : AExit) (s' : St) (ρ : Ren) (a : Act) (w : World),
    Draws D c = true → execCode P callF loopF c s = some (x, s') → Rel P ρ s.H w → FRel P ρ s a → c.wp P (Fin P ρ s.H w x s') a w := by
  intro c
  induction c with
  | skip =>
    intro s x s' ρ a w _ h hr hf
    simp only [execCode, Option.some.injEq, Prod.mk.injEq] at h
    obtain ⟨rfl, rfl⟩ := h
    exact wp_skip ⟨rfl, ρ, hr, hf, Step.refl ..⟩
  | label l =>
    intro s x s' ρ a w _ h hr hf
    simp only [execCode, Option.some.injEq, Prod.mk.injEq] at h
    obtain ⟨rfl, rfl⟩ := h
    exact wp_label ⟨rfl, ρ, hr, hf, Step.refl ..⟩
  | exit id =>
    intro s x s' ρ a w _ h hr hf
    simp only [execCode, Option.some.injEq, Prod.mk.injEq] at h
    obtain ⟨rfl, rfl⟩ := h
    exact wp_exit ⟨rfl, ρ, hr, hf, Step.refl ..⟩
  | ret =>
    intro s x s' ρ a w _ h hr hf
    simp only [execCode, Option.some.injEq, Prod.mk.injEq] at h
    obtain ⟨rfl, rfl⟩ := h
    exact wp_ret ⟨rfl, ρ, hr, hf, Step.refl ..⟩
  | region id ops draw =>
    intro s x s' ρ a w hd h hr hf
    simp only [execCode, Option.bind_eq_some_iff, Option.some.injEq, Prod.mk.injEq] at h
    obtain ⟨s1, h, rfl, rfl⟩ := h
    cases draw with
    | true =>
      simp only [if_true] at h
      exact hD id ops s s1 (by simpa [Draws] using hd) h ρ a w hr hf
    | false =>
      simp only [Bool.false_eq_true, if_false] at h
      refine wp_region (execOps_wp hC (List.range ops.size) s a w ρ ops.toList s1 ?_ h hr hf (fun ρ' a' w' h1 h2 h3 => ⟨rfl, ρ', h1, h2, h3⟩))
      apply List.ext_getElem?
      intro i
      simp only [List.getElem?_map, List.getElem?_range', Array.getElem?_toList]
      rcases Nat.lt_or_ge i ops.size with hi | hi
      · simp [hi]
      · simp [hi]
  | seq c d ihc ihd =>
    intro s x s' ρ a w hd h hr hf
    simp only [Draws, Bool.and_eq_true] at hd
    simp only [execCode, Option.bind_eq_some_iff] at h
    obtain ⟨⟨x1, s1⟩, h1, h⟩ := h
    refine wp_seq (wp_mono (ihc s x1 s1 ρ a w hd.1 h1 hr hf) ?_)
    rintro e a' w' ⟨rfl, ρ', hr', hf', hst⟩
    cases x1 with
    | normal =>
      simp only [AExit.toExit, Exit.then]
      exact wp_mono (ihd s1 x s' ρ' a' w' hd.2 h hr' hf') (fun e a w k => Fin.trans hst k)
    | exit id =>
      simp only [Option.some.injEq, Prod.mk.injEq] at h
      obtain ⟨rfl, rfl⟩ := h
      exact ⟨rfl, ρ', hr', hf', hst⟩
    | ret =>
      simp only [Option.some.injEq, Prod.mk.injEq] at h
      obtain ⟨rfl, rfl⟩ := h
      exact ⟨rfl, ρ', hr', hf', hst⟩
  | cond o c d ihc ihd =>
    intro s x s' ρ a w hd h hr hf
    simp only [Draws, Bool.and_eq_true] at hd
    simp only [execCode, Option.bind_eq_some_iff] at h
    obtain ⟨v, hv, h⟩ := h
    have ho := hf.sees [o] o (by simp) v hv
    split at h
    · exact wp_cond_true (bool_rel ho) (ihc s x s' ρ a w hd.1 h hr hf)
    · exact wp_cond_false (bool_rel ho) (ihd s x s' ρ a w hd.2 h hr hf)
    · cases h
  | block id c ih =>
    intro s x s' ρ a w hd h hr hf
    simp only [execCode, Option.bind_eq_some_iff] at h
    obtain ⟨⟨x1, s1⟩, h1, h⟩ := h
    refine wp_block (wp_mono (ih s x1 s1 ρ a w hd h1 hr hf) ?_)
    rintro e a' w' ⟨rfl, ρ', hr', hf', hst⟩
    cases x1 with
    | normal =>
      simp only [Option.some.injEq, Prod.mk.injEq] at h
      obtain ⟨rfl, rfl⟩ := h
      exact ⟨rfl, ρ', hr', hf', hst⟩
    | exit id' =>
      dsimp only at h
      simp only [AExit.toExit, Exit.inBlock]
      split at h
      · rename_i he
        simp only [Option.some.injEq, Prod.mk.injEq] at h
        obtain ⟨rfl, rfl⟩ := h
        rw [if_pos he]
        exact ⟨rfl, ρ', hr', hf', hst⟩
      · rename_i he
        simp only [Option.some.injEq, Prod.mk.injEq] at h
        obtain ⟨rfl, rfl⟩ := h
        rw [if_neg he]
        exact ⟨rfl, ρ', hr', hf', hst⟩
    | ret =>
      simp only [Option.some.injEq, Prod.mk.injEq] at h
      obtain ⟨rfl, rfl⟩ := h
      exact ⟨rfl, ρ', hr', hf', hst⟩
  | scope c ih =>
    intro s x s' ρ a w hd h hr hf
    simp only [execCode] at h
    refine wp_scope_straight (wp_mono (ih s x s' ρ a w hd h hr hf) ?_)
    rintro e a' w' ⟨rfl, hz⟩
    cases x <;> exact ⟨rfl, hz⟩
  | loop c ih =>
    intro s x s' ρ a w hd h hr hf
    simp only [execCode] at h
    exact (hL c s x s' hd h ρ a w hr hf).start
  | rangeFunc => intro s x s' ρ a w _ h; simp [execCode] at h
  | goto => intro s x s' ρ a w _ h; simp [execCode] at h
  | refuse => intro s x s' ρ a w _ h; simp [execCode] at h
end
end AE
