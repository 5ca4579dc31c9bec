/- The abstract evaluator: regions that draw their order. One operation more. Conditions: none. -/
import Derived.Test.YtandggoanbdjkaaGreatDoorAEDraw4
namespace AE
open Go

theorem inD_set {listed : Array Bool} {i : Nat} (hi : i < listed.size) (j : Nat) : inD (listed.setIfInBounds i true) j ↔ j = i ∨ inD listed j := by
  unfold inD
  simp only [Array.getD_eq_getD_getElem?, Array.getElem?_setIfInBounds]
  by_cases h : i = j
  · subst h; simp [hi]
  · rw [if_neg h]
    constructor
    · exact .inr
    · rintro (h' | h')
      · exact absurd h'.symm h
      · exact h'

section
variable {P : Program} {callF : CallF} {ops : Array Oper} {base : Nat} {L : List (Nat × List Nat)} {st : Nat → St} {ρ ρ' : Ren} {w w' : World} {a : Act} {listed : Array Bool}
variable {ρ0 : Ren} {H0 G G' : Heap} {w0 : World} {K K' : Nat}

theorem Inv.more [Base] (hI : Inv P ops base L st ρ0 H0 w0 listed K G ρ a w) (hP : Plan P ops L) {k i : Nat} {ag : List Nat} {o : Oper} (hk : L[k]? = some (i, ag)) (hn : Next ops listed i o) {u : Value} {df : List Deferred}
    (hle : ρ.le ρ') (hK : (K' = K ∧ cls P o.op ≠ .eff) ∨ (K' = k + 1 ∧ cls P o.op = .eff ∧ K ≤ k)) (hrel : Rel P ρ' G' w') (hsub : Sub (st K').H G')
    (hmade : ∀ (k2 i2 : Nat) (ag2 : List Nat) (ob : AObj), K' ≤ k2 → L[k2]? = some (i2, ag2) → (i2 = i ∨ inD listed i2) → MadeAt P ops base st k2 i2 ob → G'.get (base + i2) = some ob)
    (hnl : ∀ (k2 i2 : Nat) (ag2 : List Nat), K' ≤ k2 → L[k2]? = some (i2, ag2) → ∀ o, (st K').H.get (base + i2) = some o → ¬ o.live)
    (hgf : ∀ j, j < ops.size → j ≠ i → ¬ inD listed j → ∀ o, G'.get (base + j) = some o → ¬ o.live)
    (hfr : ∀ j, j < ops.size → j ≠ i → ¬ inD listed j → ρ' (base + j) = none)
    (hu : ∀ t, Wr (st 0).n o t → VRel ρ' ((st (k + 1)).tmp t) u) (hds : DefsOk P ρ' (st K').ds df) (hst : Step none ρ0 H0 w0 ρ' G' w') (hnx : base + ops.size ≤ G'.next) :
    Inv P ops base L st ρ0 H0 w0 (listed.setIfInBounds i true) K' G' ρ' (({ a with defers := df } : Act).put o.dst u) w' := by
  have hil : i < listed.size := by rw [hI.size]; exact (hP.lt hk).2
  have hin := inD_set hil
  refine ⟨by simp [hI.size], ?_, ?_, ?_, hrel, hsub, ?_, hnl, ?_, ?_, ?_, ?_, ?_, by rw [put_defers]; exact hds, hst, hI.basis, hnx⟩
  · intro k2 i2 ag2 o2 hk2 ho2 hc2
    rw [hin]
    rcases hK with ⟨rfl, hne⟩ | ⟨rfl, hce, hle2⟩
    · have : i2 ≠ i := fun e => by subst e; rw [hn.op] at ho2; simp only [Option.some.injEq] at ho2; subst ho2; exact hne hc2
      rw [← hI.effs k2 i2 ag2 o2 hk2 ho2 hc2]
      exact ⟨fun h => h.resolve_left this, .inr⟩
    · constructor
      · rintro (rfl | h)
        · have := hP.one hk2 hk; omega
        · have := (hI.effs k2 i2 ag2 o2 hk2 ho2 hc2).1 h; omega
      · intro hlt
        rcases Nat.lt_or_ge k2 k with h | h
        · exact .inr (hn.anc hI.closed ((hP.pair hk hn.op hk2 ho2 h).effEff hc2 hce))
        · have : k2 = k := by omega
          subst this
          rw [hk] at hk2; simp only [Option.some.injEq, Prod.mk.injEq] at hk2
          exact .inl hk2.1.symm
  · rcases hK with ⟨rfl, hne⟩ | ⟨rfl, hce, hle2⟩
    · rcases hI.down with h | ⟨k2, i2, ag2, o2, h1, h2, h3, h4, h5⟩
      · exact .inl h
      · exact .inr ⟨k2, i2, ag2, o2, h1, h2, h3, h4, (hin _).2 (.inr h5)⟩
    · exact .inr ⟨k, i, ag, o, rfl, hk, hn.op, hce, (hin _).2 (.inl rfl)⟩
  · intro i2 o2 e h1 h2 h3 h4
    rcases (hin _).1 h1 with rfl | h1
    · rw [hn.op] at h2; simp only [Option.some.injEq] at h2; subst h2
      exact (hin _).2 (.inr (hn.edges e h3 h4))
    · exact (hin _).2 (.inr (hI.closed i2 o2 e h1 h2 h3 h4))
  · intro k2 i2 ag2 ob h1 h2 h3 h4
    exact hmade k2 i2 ag2 ob h1 h2 ((hin _).1 h3) h4
  · intro j hj hnj
    exact hgf j hj (fun e => hnj ((hin _).2 (.inl e))) (fun h => hnj ((hin _).2 (.inr h)))
  · intro j hj hnj
    exact hfr j hj (fun e => hnj ((hin _).2 (.inl e))) (fun h => hnj ((hin _).2 (.inr h)))
  · intro t ht
    rw [tmps_put, if_neg ?_]
    · exact VRel.mono hle _ _ (hI.t1 t fun i2 o2 h1 h2 h3 => ht i2 o2 h1 h2 ((hin _).2 (.inr h3)))
    · rintro ⟨h1, h2⟩
      exact ht i o hn.op ⟨h1, by rw [hI.n]; exact h2⟩ ((hin _).2 (.inl rfl))
  · intro k2 i2 ag2 o2 t hk2 ho2 hi2 hw2
    rw [tmps_put]
    rcases (hin _).1 hi2 with rfl | hi2
    · have := hP.one hk2 hk
      subst this
      rw [hn.op] at ho2; simp only [Option.some.injEq] at ho2; subst ho2
      rw [if_pos ⟨hw2.1, by show t < a.tmps.size; rw [← hI.n]; exact hw2.2⟩]
      exact hu t hw2
    · rw [if_neg ?_]
      · exact VRel.mono hle _ _ (hI.t2 k2 i2 ag2 o2 t hk2 ho2 hi2 hw2)
      · rintro ⟨h1, _⟩
        rcases Nat.lt_trichotomy k2 k with h | h | h
        · exact (hP.pair hk hn.op hk2 ho2 h).once t hw2.1 h1
        · subst h
          rw [hk] at hk2; simp only [Option.some.injEq, Prod.mk.injEq] at hk2
          obtain ⟨rfl, _⟩ := hk2
          exact hn.out hi2
        · exact (hP.pair hk2 ho2 hk hn.op h).once t h1 hw2.1
  · rw [put_size]; exact hI.n

/-- one operation more that neither makes nor changes an object -/
theorem Inv.looked [Base] (hI : Inv P ops base L st ρ0 H0 w0 listed K G ρ a w) (hP : Plan P ops L) {k i : Nat} {ag : List Nat} {o : Oper} (hk : L[k]? = some (i, ag)) (hn : Next ops listed i o) {u : Value}
    (hc : cls P o.op ≠ .eff) (hno : ∀ ob, ¬ MadeAt P ops base st k i ob) (hu : ∀ t, Wr (st 0).n o t → VRel ρ ((st (k + 1)).tmp t) u) :
    Inv P ops base L st ρ0 H0 w0 (listed.setIfInBounds i true) K G ρ (a.put o.dst u) w := by
  refine hI.more hP hk hn (df := a.defers) (Ren.le_refl ρ) (.inl ⟨rfl, hc⟩) hI.rel hI.sub ?_ hI.nl (fun j h1 _ h2 => hI.gfree j h1 h2) (fun j h1 _ h2 => hI.fresh j h1 h2) hu hI.ds hI.step hI.next
  rintro k2 i2 ag2 ob h1 h2 (rfl | h3) h4
  · have := hP.one h2 hk
    subst this
    exact absurd h4 (hno ob)
  · exact hI.made k2 i2 ag2 ob h1 h2 h3 h4
end
end AE
