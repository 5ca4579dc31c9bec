/- The abstract evaluator is sound at regions that draw their order. Conditions: none. -/
import Derived.Test.YtandggoanbdjkaaGreatDoorAEDraw5
namespace AE
open Go

theorem wanted_tmp {s s' : St} {ops : Array Oper} {o : Oper} (h : ∀ t, t ∈ (match o.guard with | some (g, _) => ((ops[g]?).bind (·.dst)).toList | none => []) → s'.tmp t = s.tmp t) : wanted s' ops o = wanted s ops o := by
  have key : ∀ (s : St) (t : Nat) (want : Bool), (match s.T.get t with | some (.bool b) => some (b == want) | some .top => none | _ => some false) = (match s.tmp t with | .bool b => some (b == want) | .top => none | _ => some false : Option Bool) := by
    intro s t want
    unfold St.tmp
    cases hg : s.T.get t with
    | none => rfl
    | some v => cases v <;> rfl
  unfold wanted
  cases hg : o.guard with
  | none => rfl
  | some p =>
    obtain ⟨g, want⟩ := p
    rw [hg] at h
    dsimp only at h ⊢
    cases hd : (ops[g]?).bind (·.dst) with
    | none => rfl
    | some t =>
      dsimp only
      refine (key s' t want).trans ?_
      rw [h t (by rw [hd]; simp)]
      exact (key s t want).symm

theorem exists_heap (base : Nat) (f : Nat → Option AObj) (H1 : Heap) : ∀ n, ∃ G' : Heap, G'.next = H1.next ∧ ∀ id, G'.get id = (if base ≤ id ∧ id < base + n then (match f id with | some o => some o | none => H1.get id) else H1.get id)
  | 0 => ⟨H1, rfl, fun id => by rw [if_neg (by omega)]⟩
  | n + 1 => by
    obtain ⟨G, h1, h2⟩ := exists_heap base f H1 n
    cases hf : f (base + n) with
    | none =>
      refine ⟨G, h1, fun id => ?_⟩
      rw [h2]
      by_cases c : id = base + n
      · subst c; rw [if_neg (by omega), if_pos (by omega), hf]
      · by_cases d : base ≤ id ∧ id < base + n
        · rw [if_pos d, if_pos (by omega)]
        · rw [if_neg d, if_neg (by omega)]
    | some o =>
      refine ⟨G.put (base + n) o, h1, fun id => ?_⟩
      rw [Heap.get_put]
      by_cases c : id = base + n
      · subst c; rw [if_pos rfl, if_pos (by omega), hf]
      · rw [if_neg c, h2]
        by_cases d : base ≤ id ∧ id < base + n
        · rw [if_pos d, if_pos (by omega)]
        · rw [if_neg d, if_neg (by omega)]

section
variable {P : Program} {callF : CallF} {ops : Array Oper} {base : Nat} {L : List (Nat × List Nat)} {st : Nat → St} {ρ : Ren} {w : World} {a : Act} {listed : Array Bool}
variable {ρ0 : Ren} {H0 G : Heap} {w0 : World} {K : Nat}

/-- what has to lie ahead of the last effect was run -/
theorem Inv.behind [Base] (hI : Inv P ops base L st ρ0 H0 w0 listed K G ρ a w) (hP : Plan P ops L) {k i : Nat} {ag : List Nat} {o : Oper} (hk : L[k]? = some (i, ag)) (hn : Next ops listed i o) (hlt : k < K) :
    cls P o.op ≠ .eff ∧ cls P o.op ≠ .new ∧ (cls P o.op = .read → ∃ (k0 i0 : Nat) (ag0 : List Nat), K = k0 + 1 ∧ k < k0 ∧ L[k0]? = some (i0, ag0) ∧ i ∈ ag0) := by
  rcases hI.down with h | ⟨k0, i0, ag0, o0, h1, h2, h3, h4, h5⟩
  · omega
  have hne : k ≠ k0 := by
    intro e; subst e
    rw [hk] at h2; simp only [Option.some.injEq, Prod.mk.injEq] at h2
    obtain ⟨rfl, _⟩ := h2
    exact hn.out h5
  have hp := hP.pair h2 h3 hk hn.op (by omega)
  have hanc : ¬ Anc ops i0 i := fun hA => hn.out (anc_in hI.closed hA fun o2 e e1 e2 e3 => hI.closed i0 o2 e h5 e1 e2 e3)
  exact ⟨fun c => hanc (hp.effEff c h4), fun c => hanc (hp.newEff c h4), fun c => ⟨k0, i0, ag0, h1, by omega, h2, (hp.readEff c h4).resolve_left hanc⟩⟩

theorem Inv.clear [Base] (hI : Inv P ops base L st ρ0 H0 w0 listed K G ρ a w) (hP : Plan P ops L) {k i : Nat} {ag : List Nat} {o : Oper} (hk : L[k]? = some (i, ag)) (hn : Next ops listed i o) (hc : cls P o.op = .eff ∨ cls P o.op = .read) :
    ∀ (k' i' : Nat) (ag' : List Nat) (o' : Oper), K ≤ k' → k' < k → L[k']? = some (i', ag') → ops[i']? = some o' → cls P o'.op ≠ .eff ∧ (cls P o'.op = .new → inD listed i') := by
  intro k' i' ag' o' h1 h2 h3 h4
  have hp := hP.pair hk hn.op h3 h4 h2
  constructor
  · intro he
    have : Anc ops i i' := by rcases hc with hc | hc; exact hp.effEff he hc; exact hp.effRead he hc
    have := (hI.effs k' i' ag' o' h3 h4 he).1 (hn.anc hI.closed this)
    omega
  · intro he
    have : Anc ops i i' := by rcases hc with hc | hc; exact hp.newEff he hc; exact hp.newRead he hc
    exact hn.anc hI.closed this

theorem guard_sub {o : Oper} : ∀ t ∈ (match o.guard with | some (g, _) => ((ops[g]?).bind (·.dst)).toList | none => []), t ∈ o.looksAt ops := by
  intro t ht
  unfold Oper.looksAt
  exact List.mem_append.2 (.inr ht)

theorem operand_sub {o : Oper} : ∀ t ∈ tmpsOf o.op.operands.toList, t ∈ o.looksAt ops := by
  intro t ht
  unfold Oper.looksAt
  exact List.mem_append.2 (.inl ht)

theorem Inv.step_ok [Base] (hC : CallOk P callF) (hI : Inv P ops base L st ρ0 H0 w0 listed K G ρ a w) (hT : Trace P callF ops base L st) (hP : Plan P ops L) {i : Nat} (hi : i ∈ Region.ready .any ops listed)
    {Q : Exit → Act → World → Prop} {Kont : Act → World → Prop} (hK : ∀ K' G' ρ' a' w', Inv P ops base L st ρ0 H0 w0 (listed.setIfInBounds i true) K' G' ρ' a' w' → Kont a' w') : wpOp P ops Q i Kont a w := by
  obtain ⟨o, hn⟩ := ready_next hI.size hi
  obtain ⟨k, ag, hk⟩ := hP.onto i (lt_of_op hn.op)
  have hkl := (hP.lt hk).1
  have hil := (hP.lt hk).2
  have hl := hI.looks hT hP hk hn
  obtain ⟨o', ho', hx, _⟩ := hT k i ag hk
  rw [hn.op] at ho'; simp only [Option.some.injEq] at ho'; subst ho'
  unfold execW at hx
  simp only [Option.bind_eq_some_iff] at hx
  obtain ⟨b, hb, hx⟩ := hx
  have hw := wanted_run (ops := ops) (o := o) (hl.sub guard_sub) hb
  have hsee : Sees ρ (st k) a o.op.operands.toList := (hl.sub operand_sub).sees
  have hNk := trace_n hT hP k (by omega)
  have hval : ∀ v H', st (k + 1) = ({ st k with H := H' }).set o.dst v → ∀ t, Wr (st 0).n o t → (st (k + 1)).tmp t = v := by
    intro v H' h t ht
    rw [h, tmp_set, if_pos ⟨ht.1, by show t < (st k).n; rw [hNk]; exact ht.2⟩]
  unfold wpOp
  rw [hn.op]
  simp only [hw]
  cases b with
  | false =>
    simp only [Option.some.injEq] at hx
    simp only [Bool.false_eq_true, if_false]
    have hH : (st (k + 1)).H = (st k).H := by rw [← hx, set_H]
    have hds : (st (k + 1)).ds = (st k).ds := by rw [← hx, set_ds]
    have hu : ∀ t, Wr (st 0).n o t → VRel ρ ((st (k + 1)).tmp t) undef := by
      intro t ht
      rw [← hx, tmp_set, if_pos ⟨ht.1, by rw [hNk]; exact ht.2⟩]
      exact undef_rel
    by_cases hc : cls P o.op = .eff
    · have hKk : K ≤ k := by
        rcases Nat.lt_or_ge k K with h | h
        · exact absurd hc (hI.behind hP hk hn h).1
        · exact h
      obtain ⟨h1, h2, h3⟩ := hI.between hT hP k hKk (by omega) (hI.clear hP hk hn (.inl hc))
      refine hK _ _ _ _ _ (hI.more hP hk hn (df := a.defers) (K' := k + 1) (Ren.le_refl ρ) (.inr ⟨rfl, hc, hKk⟩) hI.rel (by rw [hH]; exact h1) ?_ ?_ (fun j e1 _ e2 => hI.gfree j e1 e2) (fun j e1 _ e2 => hI.fresh j e1 e2) hu (by rw [hds, h3]; exact hI.ds) hI.step hI.next)
      · rintro k2 i2 ag2 ob e1 e2 (rfl | e3) e4
        · have := hP.one e2 hk; omega
        · exact hI.made k2 i2 ag2 ob (by omega) e2 e3 e4
      · intro k2 i2 ag2 e1 e2
        rw [hH]
        exact h2 k2 i2 ag2 (by omega) e2
    · refine hK _ _ _ _ _ (hI.looked hP hk hn hc ?_ hu)
      rintro ob ⟨o2, h1, h2, h3, _⟩
      rw [hn.op] at h1; simp only [Option.some.injEq] at h1; subst h1
      rw [hb] at h3; cases h3
  | true =>
    simp only [if_true]
    refine .inl ?_
    cases hcl : cls P o.op with
    | pure =>
      obtain ⟨v, H', h1, h2⟩ := execOper_local (by rw [hcl]; simp) hx
      obtain ⟨_, h3⟩ := opLocal_pure hcl h1
      obtain ⟨_, u, hrun, hv⟩ := opLocal_still (s := { st k with H := G }) (a := a) hI.rel (fun x hx v hv => hsee x hx v (by rw [eval_H] at hv; exact hv)) (by rw [hcl]; rfl) (h3 G none)
      unfold Oper.wp
      rw [hrun, Oper.upon_value]
      refine hK _ _ _ _ _ (hI.looked hP hk hn (by rw [hcl]; simp) ?_ (fun t ht => by rw [hval v H' h2 t ht]; exact hv))
      rintro ob ⟨o2, h1, h2, _⟩
      rw [hn.op] at h1; simp only [Option.some.injEq] at h1; subst h1
      rw [hcl] at h2; cases h2
    | read =>
      obtain ⟨v, H', h1, h2⟩ := execOper_local (by rw [hcl]; simp) hx
      have hno : ∀ ob, ¬ MadeAt P ops base st k i ob := by
        rintro ob ⟨o2, h1, h2, _⟩
        rw [hn.op] at h1; simp only [Option.some.injEq] at h1; subst h1
        rw [hcl] at h2; cases h2
      have hrest : ∃ u, (execOp a.eval o).run P w = .ok (.value u) w ∧ ∀ t, Wr (st 0).n o t → VRel ρ ((st (k + 1)).tmp t) u := by
        rcases Nat.lt_or_ge k K with hlt | hge
        · obtain ⟨k0, i0, ag0, e1, e2, e3, e4⟩ := (hI.behind hP hk hn hlt).2.2 hcl
          obtain ⟨o0, ho0, _, hag⟩ := hT k0 i0 ag0 e3
          have hk0 := (hP.lt e3).1
          have hs := List.all_eq_true.1 hag i e4
          rw [← e1] at hs
          have hsame : ∀ t ∈ o.looksAt ops, (st K).tmp t = (st k).tmp t := by
            intro t ht
            refine trace_keep hT hP K (by omega) (by omega) ?_
            intro k2 i2 ag2 o2 f1 f2 f3 f4 f5
            by_cases hkk : k2 = k
            · subst hkk
              rw [hk] at f3; simp only [Option.some.injEq, Prod.mk.injEq] at f3
              obtain ⟨rfl, _⟩ := f3
              rw [hn.op] at f4; simp only [Option.some.injEq] at f4; subst f4
              exact (hP.get hk hn.op).self t f5.1 ht
            · exact ((hP.pair f3 f4 hk hn.op (by omega)).anti t f5.1 ht).2 hcl
          have hw2 : wanted (st K) ops o = some true := by
            rw [wanted_tmp (s := st k) (fun t ht => hsame t (guard_sub t ht))]; exact hb
          unfold stillD at hs
          rw [hn.op] at hs
          simp only [hw2] at hs
          cases hop : opLocal P (st K) none o.op with
          | none => rw [hop] at hs; cases hs
          | some r =>
            obtain ⟨v', H2⟩ := r
            rw [hop] at hs
            have hl2 : Looks ρ (st K) a (o.looksAt ops) := fun t ht => by rw [hsame t ht]; exact hl t ht
            obtain ⟨_, u, hrun, hv⟩ := opLocal_still (a := a) (hI.rel.sub hI.sub) ((hl2.sub operand_sub).sees) (by rw [hcl]; rfl) hop
            refine ⟨u, hrun, fun t ht => ?_⟩
            rw [ht.1] at hs
            have heq := AV.same_eq _ _ hs
            have hkeep : (st K).tmp t = (st (k + 1)).tmp t := by
              refine trace_keep hT hP K (by omega) (by omega) ?_
              intro k2 i2 ag2 o2 f1 f2 f3 f4 f5
              exact (hP.pair f3 f4 hk hn.op (by omega)).once t ht.1 f5.1
            rw [← hkeep, ← heq]
            exact hv
        · obtain ⟨g1, _, _⟩ := hI.between hT hP k hge (by omega) (hI.clear hP hk hn (.inr hcl))
          obtain ⟨_, u, hrun, hv⟩ := opLocal_still (a := a) (hI.rel.sub g1) hsee (by rw [hcl]; rfl) h1
          exact ⟨u, hrun, fun t ht => by rw [hval v H' h2 t ht]; exact hv⟩
      obtain ⟨u, hrun, hv⟩ := hrest
      unfold Oper.wp
      rw [hrun, Oper.upon_value]
      exact hK _ _ _ _ _ (hI.looked hP hk hn (by rw [hcl]; simp) hno hv)
    | new =>
      have hKk : K ≤ k := by
        rcases Nat.lt_or_ge k K with h | h
        · exact absurd hcl (hI.behind hP hk hn h).2.1
        · exact h
      obtain ⟨v, H', h1, h2⟩ := execOper_local (by rw [hcl]; simp) hx
      rw [if_pos hcl] at h1
      obtain ⟨ob, _, h4, h5⟩ := opLocal_new hcl h1
      let Hm : Heap := { m := .leaf, next := G.next }
      have hmg : ∀ j, Hm.get j = none := fun j => by show (Tr.leaf : Tr AObj).get j = none; cases j <;> rfl
      have hms : Sub Hm G := ⟨rfl, fun j q hj => by rw [hmg] at hj; cases hj⟩
      have hbi : base + i < G.next := by have := hI.next; omega
      have hfi := hI.fresh i hil hn.out
      obtain ⟨ρ', w', u, hrun, hv, hr', hst'⟩ := opLocal_run (s := { st k with H := Hm }) (a := a) (hI.rel.sub hms) (fun x hx v hv => hsee x hx v (by rw [eval_H] at hv; exact hv)) (fun j hj => by simp only [Option.some.injEq] at hj; rw [← hj]; exact hfi) (h5 Hm (hmg _) hbi)
      have hg : ∀ j q, (G.put (base + i) ob).get j = some q → q.live → (Hm.put (base + i) ob).get j = some q ∨ (G.get j = some q ∧ ∀ o', Hm.get j = some o' → ¬ o'.live) := by
        intro j q hj _
        rw [Heap.get_put] at hj ⊢
        by_cases e : j = base + i
        · rw [if_pos e] at hj ⊢; exact .inl hj
        · rw [if_neg e] at hj; exact .inr ⟨hj, fun o' ho' => by rw [hmg] at ho'; cases ho'⟩
      obtain ⟨hr2, _⟩ := hI.rel.beside (G' := G.put (base + i) ob) hms hst' hr' rfl hg
      have hst2 := Step.beside (G' := G.put (base + i) ob) hI.step hI.rel hms hst' rfl (fun j hj => by simp only [Option.some.injEq] at hj; have := hI.basis; omega) hg
      have hfr : ∀ j, j < ops.size → j ≠ i → ¬ inD listed j → ρ' (base + j) = none := by
        intro j e1 e2 e3
        cases hc : ρ' (base + j) with
        | none => rfl
        | some e =>
          rcases hst'.new (base + j) e (hI.fresh j e1 e3) hc with h | h
          · have := hI.next; have h : G.next ≤ base + j := h; omega
          · simp only [Option.some.injEq] at h; omega
      have hinv := hI.more (G' := G.put (base + i) ob) (u := u) (df := a.defers) hP hk hn hst'.ext (.inl ⟨rfl, by rw [hcl]; simp⟩) hr2 (⟨hI.sub.next, fun j q hj hq => by
          rw [Heap.get_put]
          by_cases e : j = base + i
          · subst e; exact absurd hq (hI.nl k i ag hKk hk q hj)
          · rw [if_neg e]; exact hI.sub.get j q hj hq⟩) (by
          rintro k2 i2 ag2 ob2 e1 e2 e3 e4
          rw [Heap.get_put]
          by_cases e : i2 = i
          · subst e
            have := hP.one e2 hk; subst this
            rw [if_pos rfl]
            obtain ⟨_, _, _, _, hput⟩ := e4
            rw [h2, set_H] at hput
            have hz : ((st k2).H.put (base + i2) ob).get (base + i2) = ((st k2).H.put (base + i2) ob2).get (base + i2) := by rw [← h4]; exact congrArg (fun H : Heap => H.get (base + i2)) hput
            rw [Heap.get_put, Heap.get_put, if_pos rfl, if_pos rfl] at hz
            exact hz
          · rw [if_neg (by omega)]
            exact hI.made k2 i2 ag2 ob2 e1 e2 (e3.resolve_left e) e4) hI.nl (by
          intro j e1 e2 e3 q hq hql
          obtain ⟨e, he, _⟩ := hr2.obj (base + j) q hq hql
          rw [hfr j e1 e2 e3] at he; cases he) hfr (fun t ht => by rw [hval v H' h2 t ht]; exact hv) (hI.ds.mono hst'.ext) hst2 hI.next
      unfold Oper.wp
      rcases hrun with hrun | ⟨hrun, rfl⟩
      · rw [hrun, Oper.upon_value]; exact hK _ _ _ _ _ hinv
      · rw [hrun, Oper.upon_skip]; exact hK _ _ _ _ _ hinv
    | eff =>
      have hKk : K ≤ k := by
        rcases Nat.lt_or_ge k K with h | h
        · exact absurd hcl (hI.behind hP hk hn h).1
        · exact h
      obtain ⟨g1, g2, g3⟩ := hI.between hT hP k hKk (by omega) (hI.clear hP hk hn (.inl hcl))
      have hrk := hI.rel.sub g1
      refine execOper_wp hC hrk hsee (fun j hj => by rw [if_neg (by rw [hcl]; simp)] at hj; cases hj) hx ?_
      intro ρ' w' v u df hs' hv hr' hst hdf
      rw [if_neg (by rw [hcl]; simp)] at hst
      have hnext := g1.next
      open Classical in
      obtain ⟨G', hgn, hgg⟩ := exists_heap base (fun id => if ∃ (k2 i2 : Nat) (ag2 : List Nat), k + 1 ≤ k2 ∧ L[k2]? = some (i2, ag2) ∧ inD listed i2 ∧ id = base + i2 then G.get id else none) (st (k + 1)).H ops.size
      have hnl' : ∀ (k2 i2 : Nat) (ag2 : List Nat), k + 1 ≤ k2 → L[k2]? = some (i2, ag2) → ∀ q, (st (k + 1)).H.get (base + i2) = some q → ¬ q.live := by
        intro k2 i2 ag2 e1 e2
        refine hst.old (base + i2) ?_ (g2 k2 i2 ag2 (by omega) e2) (by simp)
        have := hI.next; have := (hP.lt e2).2; omega
      have hg : ∀ j q, G'.get j = some q → q.live → (st (k + 1)).H.get j = some q ∨ (G.get j = some q ∧ ∀ o', (st k).H.get j = some o' → ¬ o'.live) := by
        intro j q hj hq
        rw [hgg] at hj
        split at hj
        · split at hj
          · rename_i q' hq'
            split at hq'
            · rename_i hex
              obtain ⟨k2, i2, ag2, e1, e2, e3, rfl⟩ := hex
              exact .inr ⟨by rw [hq']; exact hj, g2 k2 i2 ag2 (by omega) e2⟩
            · cases hq'
          · exact .inl hj
        · exact .inl hj
      obtain ⟨hr2, _⟩ := hI.rel.beside (G' := G') g1 hst hr' hgn hg
      have hst2 := Step.beside (G' := G') hI.step hI.rel g1 hst hgn (fun j hj => by cases hj) hg
      have hfr : ∀ j, j < ops.size → j ≠ i → ¬ inD listed j → ρ' (base + j) = none := by
        intro j e1 e2 e3
        cases hc : ρ' (base + j) with
        | none => rfl
        | some e =>
          rcases hst.new (base + j) e (hI.fresh j e1 e3) hc with h | h
          · have := hI.next; omega
          · cases h
      refine hK _ _ _ _ _ (hI.more (K' := k + 1) (G' := G') (u := u) (df := df) hP hk hn hst.ext (.inr ⟨rfl, hcl, hKk⟩) hr2 ⟨hgn.symm, fun j q hj hq => ?_⟩ ?_ hnl' ?_ hfr ?_ ?_ hst2 ?_)
      · rw [hgg]
        split
        · split
          · rename_i q' hq'
            split at hq'
            · rename_i hex
              obtain ⟨k2, i2, ag2, e1, e2, e3, rfl⟩ := hex
              exact absurd hq (hnl' k2 i2 ag2 e1 e2 q hj)
            · cases hq'
          · exact hj
        · exact hj
      · rintro k2 i2 ag2 ob e1 e2 (rfl | e3) e4
        · have := hP.one e2 hk; omega
        · have hgm := hI.made k2 i2 ag2 ob (by omega) e2 e3 e4
          have := (hP.lt e2).2
          rw [hgg, if_pos ⟨by omega, by omega⟩, if_pos ⟨k2, i2, ag2, e1, e2, e3, rfl⟩, hgm]
      · intro j e1 e2 e3 q hq hql
        obtain ⟨e, he, _⟩ := hr2.obj (base + j) q hq hql
        rw [hfr j e1 e2 e3] at he; cases he
      · intro t ht
        rw [hs', tmp_set, if_pos ⟨ht.1, by show t < (st k).n; rw [hNk]; exact ht.2⟩]
        exact hv
      · rcases hdf with ⟨e1, e2⟩ | ⟨d, x, e1, e2, hd⟩
        · rw [e1, e2, g3]; exact hI.ds.mono hst.ext
        · rw [e1, e2, g3]; exact ⟨hd, hI.ds.mono hst.ext⟩
      · rw [hgn]; have := hst.nle; have := hI.next; omega
end
end AE
