/- The abstract evaluator is sound. Conditions: none. -/
import Derived.Test.YtandggoanbdjkaaGreatDoorAEDraw6
namespace AE
open Go

def cntN (listed : Array Bool) : Nat → Nat
  | 0 => 0
  | k + 1 => cntN listed k + if listed.getD k false = true then 0 else 1

theorem cntN_zero {listed : Array Bool} : ∀ m, cntN listed m = 0 → ∀ i, i < m → inD listed i
  | 0, _, i, hi => by omega
  | m + 1, h, i, hi => by
    simp only [cntN] at h
    by_cases e : i = m
    · subst e
      unfold inD
      by_cases c : listed.getD i false = true
      · exact c
      · rw [if_neg c] at h; omega
    · exact cntN_zero m (by omega) i (by omega)

theorem cntN_set {listed : Array Bool} {i : Nat} (hi : i < listed.size) (hn : ¬ inD listed i) : ∀ m, cntN (listed.setIfInBounds i true) m + (if i < m then 1 else 0) = cntN listed m
  | 0 => by simp [cntN]
  | m + 1 => by
    have ih := cntN_set hi hn m
    simp only [cntN]
    have hd := inD_set (listed := listed) hi m
    unfold inD at hd hn
    by_cases e : i = m
    · subst e
      rw [if_neg (by omega)] at ih
      rw [if_pos (hd.2 (.inl rfl)), if_neg hn, if_pos (by omega)]
      omega
    · by_cases c : listed.getD m false = true
      · rw [if_pos (hd.2 (.inr c)), if_pos c]
        by_cases d : i < m
        · rw [if_pos d] at ih; rw [if_pos (by omega)]; omega
        · rw [if_neg d] at ih; rw [if_neg (by omega)]; omega
      · rw [if_neg (fun h => by rcases hd.1 h with h | h; exact e h.symm; exact c h), if_neg c]
        by_cases d : i < m
        · rw [if_pos d] at ih; rw [if_pos (by omega)]; omega
        · rw [if_neg d] at ih; rw [if_neg (by omega)]; omega

theorem cntN_start : ∀ m n, m ≤ n → cntN (Array.replicate n false) m = m
  | 0, _, _ => rfl
  | m + 1, n, h => by
    simp only [cntN, cntN_start m n (by omega)]
    rw [if_neg]
    simp only [Array.getD_eq_getD_getElem?]
    rw [Array.getElem?_replicate]
    split <;> simp

theorem Step.sub {at_ : Option Nat} {ρ ρ' : Ren} {H G Hb : Heap} {w w' : World} (h : Step at_ ρ H w ρ' G w') (hs : Sub Hb G) : Step at_ ρ H w ρ' Hb w' :=
  ⟨h.ext, h.new, by rw [hs.next]; exact h.nle, h.size, h.frame, fun i o e hi hl => h.live i o e (hs.get i o hi hl) hl, h.os, h.tape, h.output, fun i hi hn ha o ho hl => h.old i hi hn ha o (hs.get i o ho hl) hl⟩

section
variable {P : Program} {callF : CallF} {ops : Array Oper} {base : Nat} {L : List (Nat × List Nat)} {st : Nat → St} {ρ : Ren} {w : World} {a : Act} {listed : Array Bool} {s s' : St}
variable {ρ0 : Ren} {H0 G : Heap} {w0 : World} {K : Nat}

theorem Inv.done [Base] (hI : Inv P ops base L st ρ0 H0 w0 listed K G ρ a w) (hP : Plan P ops L) (h : Region.ready .any ops listed = []) : ∀ i, i < ops.size → inD listed i := by
  have key : ∀ (k i : Nat) (ag : List Nat), L[k]? = some (i, ag) → inD listed i := by
    intro k
    induction k using Nat.strongRecOn with
    | _ k ih =>
      intro i ag hk
      obtain ⟨o, ho⟩ := hP.op hk
      have hil := (hP.lt hk).2
      by_cases hin : inD listed i
      · exact hin
      exfalso
      have : i ∈ Region.ready .any ops listed := by
        unfold Region.ready
        simp only [List.mem_filter, List.mem_range, Bool.and_eq_true, Bool.not_eq_true']
        refine ⟨hil, ?_, ?_⟩
        · unfold inD at hin
          simp only [Array.getD_eq_getD_getElem?] at hin ⊢
          rw [Array.getElem?_eq_getElem (by rw [hI.size]; exact hil)] at hin ⊢
          simpa using hin
        · rw [ho]
          simp only [Option.map_some, Option.getD_some]
          refine Array.all_eq_true'.2 fun e he => ?_
          rw [binds_any]
          by_cases hb : bindsAny e = true
          · obtain ⟨k', ag', hlt, hk'⟩ := (hP.get hk ho).edges e (Array.mem_toList_iff.2 he) hb
            have := ih k' hlt e.on ag' hk'
            unfold inD at this
            simp [this]
          · simp [hb]
      rw [h] at this
      cases this
  intro i hi
  obtain ⟨k, ag, hk⟩ := hP.onto i hi
  exact key k i ag hk

theorem Inv.all [Base] (hI : Inv P ops base L st ρ0 H0 w0 listed K G ρ a w) (hT : Trace P callF ops base L st) (hP : Plan P ops L) (h : ∀ i, i < ops.size → inD listed i) :
    Rel P ρ (st ops.size).H w ∧ FRel P ρ (st ops.size) a ∧ Step none ρ0 H0 w0 ρ (st ops.size).H w := by
  have hK : K ≤ ops.size := by
    rcases hI.down with h | ⟨k, i, ag, o, h1, h2, _⟩
    · omega
    · have := (hP.lt h2).1; omega
  obtain ⟨g1, _, g3⟩ := hI.between hT hP ops.size hK (Nat.le_refl _) (by
    intro k' i ag o h1 h2 h3 h4
    refine ⟨fun hc => ?_, fun _ => h i (hP.lt h3).2⟩
    have := (hI.effs k' i ag o h3 h4 hc).1 (h i (hP.lt h3).2)
    omega)
  refine ⟨hI.rel.sub g1, ⟨fun t => ?_, by rw [trace_n hT hP _ (Nat.le_refl _)]; exact hI.n, by rw [g3]; exact hI.ds⟩, hI.step.sub g1⟩
  by_cases hw : ∃ (k' j : Nat) (ag' : List Nat) (oj : Oper), L[k']? = some (j, ag') ∧ ops[j]? = some oj ∧ Wr (st 0).n oj t
  · obtain ⟨k', j, ag', oj, hk', hoj, hwr⟩ := hw
    have hkl := (hP.lt hk').1
    rw [trace_keep hT hP ops.size (m := k' + 1) (by omega) (Nat.le_refl _) (fun k2 i2 ag2 o2 h1 h2 hk2 ho2 hw2 => (hP.pair hk2 ho2 hk' hoj (by omega)).once t hwr.1 hw2.1)]
    exact hI.t2 k' j ag' oj t hk' hoj (h j (hP.lt hk').2) hwr
  · rw [trace_keep hT hP ops.size (m := 0) (by omega) (Nat.le_refl _) (fun k2 i2 ag2 o2 h1 h2 hk2 ho2 hw2 => hw ⟨k2, i2, ag2, o2, hk2, ho2, hw2⟩)]
    refine hI.t1 t fun i2 o2 ho2 hw2 => ?_
    obtain ⟨k2, ag2, hk2⟩ := hP.onto i2 (lt_of_op ho2)
    exact absurd ⟨k2, i2, ag2, o2, hk2, ho2, hw2⟩ hw

theorem any_wp [Base] (hC : CallOk P callF) (hT : Trace P callF ops base L st) (hP : Plan P ops L) {Q : Exit → Act → World → Prop}
    (hQ : ∀ ρ a w, Rel P ρ (st ops.size).H w → FRel P ρ (st ops.size) a → Step none ρ0 H0 w0 ρ (st ops.size).H w → Q .normal a w) : ∀ (fuel : Nat) (listed : Array Bool) (K : Nat) (G : Heap) (ρ : Ren) (a : Act) (w : World),
    Inv P ops base L st ρ0 H0 w0 listed K G ρ a w → cntN listed ops.size ≤ fuel → wpAny P .any ops Q fuel listed a w := by
  intro fuel
  induction fuel with
  | zero =>
    intro listed K G ρ a w hI hc
    have hall := cntN_zero (listed := listed) ops.size (by omega)
    obtain ⟨h1, h2, h3⟩ := hI.all hT hP hall
    refine ⟨?_, hQ ρ a w h1 h2 h3⟩
    unfold Region.ready
    rw [List.filter_eq_nil_iff]
    intro i hi
    have := hall i (List.mem_range.1 hi)
    unfold inD at this
    simp only [Array.getD_eq_getD_getElem?] at this ⊢
    rw [Array.getElem?_eq_getElem (by rw [hI.size]; exact List.mem_range.1 hi)] at this ⊢
    simp only [Option.getD_some] at this ⊢
    simp [this]
  | succ fuel ih =>
    intro listed K G ρ a w hI hc
    refine ⟨fun hr => ?_, fun i hi => ?_⟩
    · obtain ⟨h1, h2, h3⟩ := hI.all hT hP (hI.done hP hr)
      exact hQ ρ a w h1 h2 h3
    · obtain ⟨o, hn⟩ := ready_next hI.size hi
      have hil := lt_of_op hn.op
      refine hI.step_ok hC hT hP hi fun K' G' ρ' a' w' hI' => ih _ K' G' ρ' a' w' hI' ?_
      have := cntN_set (listed := listed) (by rw [hI.size]; exact hil) hn.out ops.size
      rw [if_pos hil] at this
      omega

theorem drawOk_sound [Base] (hm : P.follows .mixedOrders = true) (hC : CallOk P callF) : DrawOk P (drawOk P) callF := by
  intro id ops s s' hd h ρ a w hr hf
  have hP := drawOk_plan hd
  unfold execDraw at h
  obtain ⟨st, h0, hn, hT⟩ := trace_of _ _ _ h
  have hlen := hP.len
  have hst0H : (st 0).H = { s.H with next := s.H.next + ops.size } := by rw [h0]
  have hget : ∀ j, (st 0).H.get j = s.H.get j := fun j => by rw [hst0H]; rfl
  have hout : ∀ i, ¬ inD (Array.replicate ops.size false) i := by
    intro i
    unfold inD
    simp only [Array.getD_eq_getD_getElem?]
    rw [Array.getElem?_replicate]
    split <;> simp
  have hnone : ∀ i, ρ (s.H.next + i) = none := by
    intro i
    cases hc : ρ (s.H.next + i) with
    | none => rfl
    | some e => have := hr.nxt _ _ hc; omega
  have hnl : ∀ i o, s.H.get (s.H.next + i) = some o → ¬ o.live := by
    intro i o ho hl
    obtain ⟨e, he, _⟩ := hr.obj _ o ho hl
    rw [hnone] at he; cases he
  have hrel : Rel P ρ (st 0).H { w with drawn := w.drawn + 1 } :=
    ⟨fun i o hi hl => hr.obj i o (by rw [← hget]; exact hi) hl, fun i j o o' e e' hi hl hj hl' => hr.inj i j o o' e e' (by rw [← hget]; exact hi) hl (by rw [← hget]; exact hj) hl', hr.rng,
      fun i e he => by have := hr.nxt i e he; rw [hst0H]; show i < s.H.next + ops.size; omega, hr.kept⟩
  have hI : Inv P ops s.H.next (drawPlan P ops) st ρ s.H w (Array.replicate ops.size false) 0 (st 0).H ρ a { w with drawn := w.drawn + 1 } := by
    refine ⟨by simp, ?_, .inl rfl, ?_, hrel, ⟨rfl, fun i o hi _ => hi⟩, ?_, ?_, ?_, fun i _ _ => hnone i, ?_, ?_, ?_, ?_, ?_, rfl, by rw [hst0H]; exact Nat.le_refl _⟩
    · intro k i ag o _ _ _
      exact ⟨fun h => absurd h (hout i), fun h => by omega⟩
    · intro i o e hi; exact absurd hi (hout i)
    · intro k i ag ob _ _ hi; exact absurd hi (hout i)
    · intro k i ag _ _ o ho; rw [hget] at ho; exact hnl i o ho
    · intro i _ _ o ho; rw [hget] at ho; exact hnl i o ho
    · intro t _; rw [h0]; exact hf.tmps t
    · intro k i ag o t _ _ hi; exact absurd hi (hout i)
    · rw [h0]; exact hf.n
    · rw [h0]; exact hf.ds
    · refine ⟨Ren.le_refl ρ, fun i e h h' => (by rw [h] at h'; cases h'), by rw [hst0H]; exact Nat.le_add_right .., Nat.le_refl _, fun _ _ _ => rfl, fun i o e h l r _ => ⟨i, o, e, by rw [← hget]; exact h, l, r, rfl⟩, rfl, rfl, rfl, fun i _ h _ o ho => h o (by rw [← hget]; exact ho)⟩
  refine wp_region_any hm (any_wp hC hT hP (ρ0 := ρ) (H0 := s.H) (w0 := w) ?_ ops.size _ 0 _ ρ a _ hI (by rw [cntN_start _ _ (Nat.le_refl _)]; exact Nat.le_refl _))
  intro ρ' a' w' h1 h2 h3
  have hs' : st ops.size = s' := by rw [← hlen]; exact hn
  rw [hs'] at h1 h2 h3
  exact ⟨rfl, ρ', h1, h2, h3⟩

/-- THE ABSTRACT EVALUATOR IS SOUND. -/
theorem sound [Base] {X : Spec} (hX : SpecOk P X) (hP : ProgOk P (drawOk P)) (hm : P.follows .mixedOrders = true) {n : Nat} {f : FuncId} {vs : List AV} {H H' : Heap} {v : AV} (h : callN P X n false f vs H = some (v, H')) {ρ : Ren} {w : World} {us : List Value}
    (hr : Rel P ρ H w) (hu : VRels ρ vs us) :
    ((callFunc f us.toArray).run P w = .ok (.enter f us.toArray) w ∧ Calls P f us.toArray w (Post P ρ H w v H')) ∨ (∃ u, (callFunc f us.toArray).run P w = .ok (.value u) w ∧ VRel ρ v u ∧ H' = H) :=
  (callN_sound hX hP (fun _ hC => drawOk_sound hm hC) n).1 f vs H v H' h ρ w us hr hu
end
end AE
