/- The abstract evaluator: regions that draw their order. What holds when some of the operations were run. Conditions: none. -/
import Derived.Test.YtandggoanbdjkaaGreatDoorWAEDraw1
namespace AE
open Go

def inD (listed : Array Bool) (i : Nat) : Prop := listed.getD i false = true

/-- an operation that lays a temporary -/
def Wr (N : Nat) (o : Oper) (t : Nat) : Prop := o.dst = some t ∧ t < N

theorem binds_any (e : Edge) : Region.binds .any e = bindsAny e := by
  unfold Region.binds bindsAny
  cases e.ground <;> rfl

section
variable {P : Program} {callF : CallF} {ops : Array Oper} {base : Nat} {L : List (Nat × List Nat)} {st : Nat → St} {ρ : Ren} {w : World} {s s' : St} {a : Act} {listed : Array Bool}

theorem Plan.get (hP : Plan P ops L) {k i : Nat} {ag : List Nat} {o : Oper} (hk : L[k]? = some (i, ag)) (ho : ops[i]? = some o) :
    PlanAt P ops (fun j => ∃ (k' : Nat) (ag : List Nat), k' < k ∧ L[k']? = some (j, ag)) i ag o := by
  obtain ⟨o', h⟩ := hP.at_ k i ag hk
  have := h.op
  rw [ho] at this; simp only [Option.some.injEq] at this; subst this
  exact h

theorem Plan.op (hP : Plan P ops L) {k i : Nat} {ag : List Nat} (hk : L[k]? = some (i, ag)) : ∃ o, ops[i]? = some o := by
  obtain ⟨o, h⟩ := hP.at_ k i ag hk
  exact ⟨o, h.op⟩

theorem Plan.pair (hP : Plan P ops L) {k i k' j : Nat} {ag ag' : List Nat} {o oj : Oper} (hk : L[k]? = some (i, ag)) (ho : ops[i]? = some o) (hk' : L[k']? = some (j, ag')) (hoj : ops[j]? = some oj) (hlt : k' < k) :
    Pair P ops i o ag j oj := by
  obtain ⟨oj', h1, h2⟩ := (hP.get hk ho).pairs j ⟨k', ag', hlt, hk'⟩
  rw [hoj] at h1; simp only [Option.some.injEq] at h1; subst h1
  exact h2

theorem Plan.one (hP : Plan P ops L) {k k' i : Nat} {ag ag' : List Nat} (hk : L[k]? = some (i, ag)) (hk' : L[k']? = some (i, ag')) : k = k' := by
  obtain ⟨o, ho⟩ := hP.op hk
  rcases Nat.lt_trichotomy k k' with h | h | h
  · exact absurd ⟨k, ag, h, hk⟩ (hP.get hk' ho).fresh
  · exact h
  · exact absurd ⟨k', ag', h, hk'⟩ (hP.get hk ho).fresh

theorem Plan.lt (hP : Plan P ops L) {k i : Nat} {ag : List Nat} (hk : L[k]? = some (i, ag)) : k < ops.size ∧ i < ops.size := by
  constructor
  · rw [← hP.len]
    rcases Nat.lt_or_ge k L.length with h | h
    · exact h
    · rw [List.getElem?_eq_none h] at hk; cases hk
  · obtain ⟨o, ho⟩ := hP.op hk
    rcases Nat.lt_or_ge i ops.size with h | h
    · exact h
    · rw [Array.getElem?_eq_none h] at ho; cases ho

theorem lt_of_op {i : Nat} {o : Oper} (h : ops[i]? = some o) : i < ops.size := by
  rcases Nat.lt_or_ge i ops.size with h' | h'
  · exact h'
  · rw [Array.getElem?_eq_none h'] at h; cases h

def Closed (ops : Array Oper) (listed : Array Bool) : Prop := ∀ (i : Nat) (o : Oper) (e : Edge), inD listed i → ops[i]? = some o → e ∈ o.after.toList → bindsAny e = true → inD listed e.on

theorem anc_in (hc : Closed ops listed) {i j : Nat} (h : Anc ops i j) : (∀ (o : Oper) (e : Edge), ops[i]? = some o → e ∈ o.after.toList → bindsAny e = true → inD listed e.on) → inD listed j := by
  induction h with
  | edge ho he hb => intro hi; exact hi _ _ ho he hb
  | more ho he hb _ ih => intro hi; exact ih fun o e h1 h2 h3 => hc _ o e (hi _ _ ho he hb) h1 h2 h3

/-- Some operations were run: what holds. -/
structure Inv [Base] (P : Program) (ops : Array Oper) (base : Nat) (L : List (Nat × List Nat)) (st : Nat → St) (ρ0 : Ren) (H0 : Heap) (w0 : World) (listed : Array Bool) (K : Nat) (G : Heap) (ρ : Ren) (a : Act) (w : World) : Prop where
  size : listed.size = ops.size
  effs : ∀ (k i : Nat) (ag : List Nat) (o : Oper), L[k]? = some (i, ag) → ops[i]? = some o → cls P o.op = .eff → (inD listed i ↔ k < K)
  down : K = 0 ∨ ∃ (k i : Nat) (ag : List Nat) (o : Oper), K = k + 1 ∧ L[k]? = some (i, ag) ∧ ops[i]? = some o ∧ cls P o.op = .eff ∧ inD listed i
  closed : Closed ops listed
  rel : Rel P ρ G w
  sub : Sub (st K).H G
  made : ∀ (k i : Nat) (ag : List Nat) (ob : AObj), K ≤ k → L[k]? = some (i, ag) → inD listed i → MadeAt P ops base st k i ob → G.get (base + i) = some ob
  nl : ∀ (k i : Nat) (ag : List Nat), K ≤ k → L[k]? = some (i, ag) → ∀ o, (st K).H.get (base + i) = some o → ¬ o.live
  gfree : ∀ i, i < ops.size → ¬ inD listed i → ∀ o, G.get (base + i) = some o → ¬ o.live
  fresh : ∀ i, i < ops.size → ¬ inD listed i → ρ (base + i) = none
  t1 : ∀ t, (∀ (i : Nat) (o : Oper), ops[i]? = some o → Wr (st 0).n o t → ¬ inD listed i) → VRel ρ ((st 0).tmp t) (a.tmps.getD t undef)
  t2 : ∀ (k i : Nat) (ag : List Nat) (o : Oper) (t : Nat), L[k]? = some (i, ag) → ops[i]? = some o → inD listed i → Wr (st 0).n o t → VRel ρ ((st (k + 1)).tmp t) (a.tmps.getD t undef)
  n : (st 0).n = a.tmps.size
  ds : DefsOk P ρ (st K).ds a.defers
  step : Step none ρ0 H0 w0 ρ G w
  basis : H0.next = base
  next : base + ops.size ≤ G.next

theorem trace_n (hT : Trace P callF ops base L st) (hP : Plan P ops L) : ∀ k, k ≤ ops.size → (st k).n = (st 0).n
  | 0, _ => rfl
  | k + 1, hk => by
    have hl : k < L.length := by rw [hP.len]; omega
    obtain ⟨o, ho⟩ := hP.op (List.getElem?_eq_getElem hl)
    rw [(trace_tmp hT (List.getElem?_eq_getElem hl) ho).2, trace_n hT hP k (by omega)]

/-- a temporary that nothing lays between two places -/
theorem trace_keep (hT : Trace P callF ops base L st) (hP : Plan P ops L) {t m : Nat} : ∀ q, m ≤ q → q ≤ ops.size →
    (∀ (k i : Nat) (ag : List Nat) (o : Oper), m ≤ k → k < q → L[k]? = some (i, ag) → ops[i]? = some o → ¬ Wr (st 0).n o t) → (st q).tmp t = (st m).tmp t := by
  intro q
  induction q with
  | zero => intro hm _ _; have : m = 0 := by omega
            rw [this]
  | succ q ih =>
    intro hm hq hw
    by_cases hc : m = q + 1
    · rw [hc]
    have hl : q < L.length := by rw [hP.len]; omega
    have hk := List.getElem?_eq_getElem hl
    obtain ⟨o, ho⟩ := hP.op hk
    have hnw := hw q _ _ o (by omega) (by omega) hk ho
    rw [← ih (by omega) (by omega) (fun k i ag o h1 h2 => hw k i ag o h1 (by omega))]
    obtain ⟨o', ho', hx, _⟩ := hT q _ _ hk
    rw [ho] at ho'; simp only [Option.some.injEq] at ho'; subst ho'
    have hn := trace_n hT hP q (by omega)
    unfold execW at hx
    simp only [Option.bind_eq_some_iff] at hx
    obtain ⟨b, hb, hx⟩ := hx
    cases b with
    | false =>
      simp only [Option.some.injEq] at hx
      rw [← hx, tmp_set, if_neg (fun c => hnw ⟨c.1, by rw [← hn]; exact c.2⟩)]
    | true =>
      obtain ⟨v, hv⟩ := execOper_shape hx
      rw [hv, tmp_set, if_neg (fun c => hnw ⟨c.1, by rw [← hn]; exact c.2⟩)]
      rfl

variable {ρ0 : Ren} {H0 G : Heap} {w0 : World} {K : Nat}

/-- an operation that may come next -/
structure Next (ops : Array Oper) (listed : Array Bool) (i : Nat) (o : Oper) : Prop where
  op : ops[i]? = some o
  out : ¬ inD listed i
  edges : ∀ e ∈ o.after.toList, bindsAny e = true → inD listed e.on

theorem Next.anc {i : Nat} {o : Oper} (h : Next ops listed i o) (hc : Closed ops listed) {j : Nat} (ha : Anc ops i j) : inD listed j :=
  anc_in hc ha fun o' e h1 h2 h3 => by
    rw [h.op] at h1; simp only [Option.some.injEq] at h1; subst h1
    exact h.edges e h2 h3

theorem ready_next (hs : listed.size = ops.size) {i : Nat} (h : i ∈ Region.ready .any ops listed) : ∃ o, Next ops listed i o := by
  unfold Region.ready at h
  simp only [List.mem_filter, List.mem_range, Bool.and_eq_true, Bool.not_eq_true'] at h
  obtain ⟨hi, h1, h2⟩ := h
  obtain ⟨o, ho⟩ : ∃ o, ops[i]? = some o := ⟨ops[i], by simp [hi]⟩
  rw [ho] at h2
  simp only [Option.map_some, Option.getD_some] at h2
  refine ⟨o, ho, ?_, ?_⟩
  · unfold inD
    simp only [Array.getD_eq_getD_getElem?] at h1 ⊢
    rw [Array.getElem?_eq_getElem (by omega)] at h1 ⊢
    simp only [Option.getD_some] at h1 ⊢
    simp [h1]
  · intro e he hb
    have := Array.all_eq_true'.1 h2 e (Array.mem_toList_iff.1 he)
    rw [binds_any, hb] at this
    simpa [inD] using this

/-- what the next operation looks at is what the plan says -/
theorem Inv.looks [Base] (hI : Inv P ops base L st ρ0 H0 w0 listed K G ρ a w) (hT : Trace P callF ops base L st) (hP : Plan P ops L) {k i : Nat} {ag : List Nat} {o : Oper} (hk : L[k]? = some (i, ag)) (hn : Next ops listed i o) :
    Looks ρ (st k) a (o.looksAt ops) := by
  intro t ht
  have hkl := (hP.lt hk).1
  by_cases hw : ∃ (k' j : Nat) (ag' : List Nat) (oj : Oper), L[k']? = some (j, ag') ∧ ops[j]? = some oj ∧ Wr (st 0).n oj t
  · obtain ⟨k', j, ag', oj, hk', hoj, hwr⟩ := hw
    have only : ∀ (k2 i2 : Nat) (ag2 : List Nat) (o2 : Oper), L[k2]? = some (i2, ag2) → ops[i2]? = some o2 → Wr (st 0).n o2 t → k2 = k' := by
      intro k2 i2 ag2 o2 hk2 ho2 hw2
      rcases Nat.lt_trichotomy k2 k' with h | h | h
      · exact absurd hwr.1 ((hP.pair hk' hoj hk2 ho2 h).once t hw2.1)
      · exact h
      · exact absurd hw2.1 ((hP.pair hk2 ho2 hk' hoj h).once t hwr.1)
    rcases Nat.lt_trichotomy k' k with h | h | h
    · have hin := hn.anc hI.closed ((hP.pair hk hn.op hk' hoj h).data t hwr.1 ht)
      rw [trace_keep hT hP k (m := k' + 1) (by omega) (by omega) (fun k2 i2 ag2 o2 h1 h2 hk2 ho2 hw2 => by have := only k2 i2 ag2 o2 hk2 ho2 hw2; omega)]
      exact hI.t2 k' j ag' oj t hk' hoj hin hwr
    · subst h
      rw [hk] at hk'; simp only [Option.some.injEq, Prod.mk.injEq] at hk'
      obtain ⟨rfl, rfl⟩ := hk'
      rw [hn.op] at hoj; simp only [Option.some.injEq] at hoj; subst hoj
      exact absurd ht ((hP.get hk hn.op).self t hwr.1)
    · obtain ⟨hanc, _⟩ := (hP.pair hk' hoj hk hn.op h).anti t hwr.1 ht
      have hout : ¬ inD listed j := fun hj => hn.out (anc_in hI.closed hanc fun o2 e h1 h2 h3 => hI.closed j o2 e hj h1 h2 h3)
      rw [trace_keep hT hP k (m := 0) (by omega) (by omega) (fun k2 i2 ag2 o2 h1 h2 hk2 ho2 hw2 => by have := only k2 i2 ag2 o2 hk2 ho2 hw2; omega)]
      refine hI.t1 t fun i2 o2 ho2 hw2 => ?_
      obtain ⟨k2, ag2, hk2⟩ := hP.onto i2 (lt_of_op ho2)
      have := only k2 i2 ag2 o2 hk2 ho2 hw2
      subst this
      rw [hk'] at hk2; simp only [Option.some.injEq, Prod.mk.injEq] at hk2
      rw [← hk2.1]; exact hout
  · rw [trace_keep hT hP k (m := 0) (by omega) (by omega) (fun k2 i2 ag2 o2 h1 h2 hk2 ho2 hw2 => hw ⟨k2, i2, ag2, o2, hk2, ho2, hw2⟩)]
    refine hI.t1 t fun i2 o2 ho2 hw2 => ?_
    obtain ⟨k2, ag2, hk2⟩ := hP.onto i2 (lt_of_op ho2)
    exact absurd ⟨k2, i2, ag2, o2, hk2, ho2, hw2⟩ hw

/-- between the last effect and a place ahead of which all that was made was run -/
theorem Inv.between [Base] (hI : Inv P ops base L st ρ0 H0 w0 listed K G ρ a w) (hT : Trace P callF ops base L st) (hP : Plan P ops L) : ∀ k, K ≤ k → k ≤ ops.size →
    (∀ (k' i : Nat) (ag : List Nat) (o : Oper), K ≤ k' → k' < k → L[k']? = some (i, ag) → ops[i]? = some o → cls P o.op ≠ .eff ∧ (cls P o.op = .new → inD listed i)) →
    Sub (st k).H G ∧ (∀ (k' i : Nat) (ag : List Nat), k ≤ k' → L[k']? = some (i, ag) → ∀ o, (st k).H.get (base + i) = some o → ¬ o.live) ∧ (st k).ds = (st K).ds := by
  intro k
  induction k with
  | zero => intro hK _ _; have : K = 0 := by omega
            subst this; exact ⟨hI.sub, hI.nl, rfl⟩
  | succ k ih =>
    intro hK hk hb
    by_cases hc : K = k + 1
    · subst hc; exact ⟨hI.sub, hI.nl, rfl⟩
    obtain ⟨h1, h2, h3⟩ := ih (by omega) (by omega) (fun k' i ag o e1 e2 => hb k' i ag o e1 (by omega))
    have hl : k < L.length := by rw [hP.len]; omega
    obtain ⟨⟨i, ag⟩, hkk⟩ : ∃ p, L[k]? = some p := ⟨_, List.getElem?_eq_getElem hl⟩
    obtain ⟨o, ho⟩ := hP.op hkk
    obtain ⟨hne, hnew⟩ := hb k i ag o (by omega) (by omega) hkk ho
    obtain ⟨h4, h5⟩ := trace_look hT hkk ho hne
    refine ⟨?_, ?_, by rw [h4, h3]⟩
    · rcases h5 with h5 | ⟨ob, hm⟩
      · rw [h5]; exact h1
      · obtain ⟨o', ho', hcn, hwt, hput⟩ := hm
        rw [ho] at ho'; simp only [Option.some.injEq] at ho'; subst ho'
        have hg := hI.made k i ag ob (by omega) hkk (hnew hcn) ⟨o, ho, hcn, hwt, hput⟩
        refine ⟨by rw [hput]; exact h1.next, fun j q hj hq => ?_⟩
        rw [hput, Heap.get_put] at hj
        by_cases e : j = base + i
        · rw [if_pos e] at hj; simp only [Option.some.injEq] at hj; subst hj; rw [e]; exact hg
        · rw [if_neg e] at hj; exact h1.get j q hj hq
    · intro k' j ag' hk' hj q hq
      rcases h5 with h5 | ⟨ob, hm⟩
      · rw [h5] at hq; exact h2 k' j ag' (by omega) hj q hq
      · obtain ⟨o', ho', hcn, hwt, hput⟩ := hm
        rw [hput, Heap.get_put] at hq
        have : j ≠ i := fun e => by subst e; have := hP.one hkk hj; omega
        rw [if_neg (by omega)] at hq
        exact h2 k' j ag' (by omega) hj q hq
end
end AE
/- The abstract evaluator: regions that draw their order. One operation more. Conditions: none. -/
namespace AE
open Go

theorem inD_set {listed : Array Bool} {i : Nat} (hi : i < listed.size) (j : Nat) : inD (listed.setIfInBounds i true) j ↔ j = i ∨ inD listed j := by
  unfold inD
  simp only [Array.getD_eq_getD_getElem?, Array.getElem?_setIfInBounds]
  by_cases h : i = j
  · subst h; simp [hi]
  · rw [if_neg h]
    constructor
    · exact .inr
    · rintro (h' | h')
      · exact absurd h'.symm h
      · exact h'

section
variable {P : Program} {callF : CallF} {ops : Array Oper} {base : Nat} {L : List (Nat × List Nat)} {st : Nat → St} {ρ ρ' : Ren} {w w' : World} {a : Act} {listed : Array Bool}
variable {ρ0 : Ren} {H0 G G' : Heap} {w0 : World} {K K' : Nat}

theorem Inv.more [Base] (hI : Inv P ops base L st ρ0 H0 w0 listed K G ρ a w) (hP : Plan P ops L) {k i : Nat} {ag : List Nat} {o : Oper} (hk : L[k]? = some (i, ag)) (hn : Next ops listed i o) {u : Value} {df : List Deferred}
    (hle : ρ.le ρ') (hK : (K' = K ∧ cls P o.op ≠ .eff) ∨ (K' = k + 1 ∧ cls P o.op = .eff ∧ K ≤ k)) (hrel : Rel P ρ' G' w') (hsub : Sub (st K').H G')
    (hmade : ∀ (k2 i2 : Nat) (ag2 : List Nat) (ob : AObj), K' ≤ k2 → L[k2]? = some (i2, ag2) → (i2 = i ∨ inD listed i2) → MadeAt P ops base st k2 i2 ob → G'.get (base + i2) = some ob)
    (hnl : ∀ (k2 i2 : Nat) (ag2 : List Nat), K' ≤ k2 → L[k2]? = some (i2, ag2) → ∀ o, (st K').H.get (base + i2) = some o → ¬ o.live)
    (hgf : ∀ j, j < ops.size → j ≠ i → ¬ inD listed j → ∀ o, G'.get (base + j) = some o → ¬ o.live)
    (hfr : ∀ j, j < ops.size → j ≠ i → ¬ inD listed j → ρ' (base + j) = none)
    (hu : ∀ t, Wr (st 0).n o t → VRel ρ' ((st (k + 1)).tmp t) u) (hds : DefsOk P ρ' (st K').ds df) (hst : Step none ρ0 H0 w0 ρ' G' w') (hnx : base + ops.size ≤ G'.next) :
    Inv P ops base L st ρ0 H0 w0 (listed.setIfInBounds i true) K' G' ρ' (({ a with defers := df } : Act).put o.dst u) w' := by
  have hil : i < listed.size := by rw [hI.size]; exact (hP.lt hk).2
  have hin := inD_set hil
  refine ⟨by simp [hI.size], ?_, ?_, ?_, hrel, hsub, ?_, hnl, ?_, ?_, ?_, ?_, ?_, by rw [put_defers]; exact hds, hst, hI.basis, hnx⟩
  · intro k2 i2 ag2 o2 hk2 ho2 hc2
    rw [hin]
    rcases hK with ⟨rfl, hne⟩ | ⟨rfl, hce, hle2⟩
    · have : i2 ≠ i := fun e => by subst e; rw [hn.op] at ho2; simp only [Option.some.injEq] at ho2; subst ho2; exact hne hc2
      rw [← hI.effs k2 i2 ag2 o2 hk2 ho2 hc2]
      exact ⟨fun h => h.resolve_left this, .inr⟩
    · constructor
      · rintro (rfl | h)
        · have := hP.one hk2 hk; omega
        · have := (hI.effs k2 i2 ag2 o2 hk2 ho2 hc2).1 h; omega
      · intro hlt
        rcases Nat.lt_or_ge k2 k with h | h
        · exact .inr (hn.anc hI.closed ((hP.pair hk hn.op hk2 ho2 h).effEff hc2 hce))
        · have : k2 = k := by omega
          subst this
          rw [hk] at hk2; simp only [Option.some.injEq, Prod.mk.injEq] at hk2
          exact .inl hk2.1.symm
  · rcases hK with ⟨rfl, hne⟩ | ⟨rfl, hce, hle2⟩
    · rcases hI.down with h | ⟨k2, i2, ag2, o2, h1, h2, h3, h4, h5⟩
      · exact .inl h
      · exact .inr ⟨k2, i2, ag2, o2, h1, h2, h3, h4, (hin _).2 (.inr h5)⟩
    · exact .inr ⟨k, i, ag, o, rfl, hk, hn.op, hce, (hin _).2 (.inl rfl)⟩
  · intro i2 o2 e h1 h2 h3 h4
    rcases (hin _).1 h1 with rfl | h1
    · rw [hn.op] at h2; simp only [Option.some.injEq] at h2; subst h2
      exact (hin _).2 (.inr (hn.edges e h3 h4))
    · exact (hin _).2 (.inr (hI.closed i2 o2 e h1 h2 h3 h4))
  · intro k2 i2 ag2 ob h1 h2 h3 h4
    exact hmade k2 i2 ag2 ob h1 h2 ((hin _).1 h3) h4
  · intro j hj hnj
    exact hgf j hj (fun e => hnj ((hin _).2 (.inl e))) (fun h => hnj ((hin _).2 (.inr h)))
  · intro j hj hnj
    exact hfr j hj (fun e => hnj ((hin _).2 (.inl e))) (fun h => hnj ((hin _).2 (.inr h)))
  · intro t ht
    rw [tmps_put, if_neg ?_]
    · exact VRel.mono hle _ _ (hI.t1 t fun i2 o2 h1 h2 h3 => ht i2 o2 h1 h2 ((hin _).2 (.inr h3)))
    · rintro ⟨h1, h2⟩
      exact ht i o hn.op ⟨h1, by rw [hI.n]; exact h2⟩ ((hin _).2 (.inl rfl))
  · intro k2 i2 ag2 o2 t hk2 ho2 hi2 hw2
    rw [tmps_put]
    rcases (hin _).1 hi2 with rfl | hi2
    · have := hP.one hk2 hk
      subst this
      rw [hn.op] at ho2; simp only [Option.some.injEq] at ho2; subst ho2
      rw [if_pos ⟨hw2.1, by show t < a.tmps.size; rw [← hI.n]; exact hw2.2⟩]
      exact hu t hw2
    · rw [if_neg ?_]
      · exact VRel.mono hle _ _ (hI.t2 k2 i2 ag2 o2 t hk2 ho2 hi2 hw2)
      · rintro ⟨h1, _⟩
        rcases Nat.lt_trichotomy k2 k with h | h | h
        · exact (hP.pair hk hn.op hk2 ho2 h).once t hw2.1 h1
        · subst h
          rw [hk] at hk2; simp only [Option.some.injEq, Prod.mk.injEq] at hk2
          obtain ⟨rfl, _⟩ := hk2
          exact hn.out hi2
        · exact (hP.pair hk2 ho2 hk hn.op h).once t h1 hw2.1
  · rw [put_size]; exact hI.n

/-- one operation more that neither makes nor changes an object -/
theorem Inv.looked [Base] (hI : Inv P ops base L st ρ0 H0 w0 listed K G ρ a w) (hP : Plan P ops L) {k i : Nat} {ag : List Nat} {o : Oper} (hk : L[k]? = some (i, ag)) (hn : Next ops listed i o) {u : Value}
    (hc : cls P o.op ≠ .eff) (hno : ∀ ob, ¬ MadeAt P ops base st k i ob) (hu : ∀ t, Wr (st 0).n o t → VRel ρ ((st (k + 1)).tmp t) u) :
    Inv P ops base L st ρ0 H0 w0 (listed.setIfInBounds i true) K G ρ (a.put o.dst u) w := by
  refine hI.more hP hk hn (df := a.defers) (Ren.le_refl ρ) (.inl ⟨rfl, hc⟩) hI.rel hI.sub ?_ hI.nl (fun j h1 _ h2 => hI.gfree j h1 h2) (fun j h1 _ h2 => hI.fresh j h1 h2) hu hI.ds hI.step hI.next
  rintro k2 i2 ag2 ob h1 h2 (rfl | h3) h4
  · have := hP.one h2 hk
    subst this
    exact absurd h4 (hno ob)
  · exact hI.made k2 i2 ag2 ob h1 h2 h3 h4
end
end AE

/- The abstract evaluator is sound at regions that draw their order. Conditions: none. -/
namespace AE
open Go

theorem wanted_tmp {s s' : St} {ops : Array Oper} {o : Oper} (h : ∀ t, t ∈ (match o.guard with | some (g, _) => ((ops[g]?).bind (·.dst)).toList | none => []) → s'.tmp t = s.tmp t) : wanted s' ops o = wanted s ops o := by
  have key : ∀ (s : St) (t : Nat) (want : Bool), (match s.T.get t with | some (.bool b) => some (b == want) | some .top => none | _ => some false) = (match s.tmp t with | .bool b => some (b == want) | .top => none | _ => some false : Option Bool) := by
    intro s t want
    unfold St.tmp
    cases hg : s.T.get t with
    | none => rfl
    | some v => cases v <;> rfl
  unfold wanted
  cases hg : o.guard with
  | none => rfl
  | some p =>
    obtain ⟨g, want⟩ := p
    rw [hg] at h
    dsimp only at h ⊢
    cases hd : (ops[g]?).bind (·.dst) with
    | none => rfl
    | some t =>
      dsimp only
      refine (key s' t want).trans ?_
      rw [h t (by rw [hd]; simp)]
      exact (key s t want).symm

theorem exists_heap (base : Nat) (f : Nat → Option AObj) (H1 : Heap) : ∀ n, ∃ G' : Heap, G'.next = H1.next ∧ ∀ id, G'.get id = (if base ≤ id ∧ id < base + n then (match f id with | some o => some o | none => H1.get id) else H1.get id)
  | 0 => ⟨H1, rfl, fun id => by rw [if_neg (by omega)]⟩
  | n + 1 => by
    obtain ⟨G, h1, h2⟩ := exists_heap base f H1 n
    cases hf : f (base + n) with
    | none =>
      refine ⟨G, h1, fun id => ?_⟩
      rw [h2]
      by_cases c : id = base + n
      · subst c; rw [if_neg (by omega), if_pos (by omega), hf]
      · by_cases d : base ≤ id ∧ id < base + n
        · rw [if_pos d, if_pos (by omega)]
        · rw [if_neg d, if_neg (by omega)]
    | some o =>
      refine ⟨G.put (base + n) o, h1, fun id => ?_⟩
      rw [Heap.get_put]
      by_cases c : id = base + n
      · subst c; rw [if_pos rfl, if_pos (by omega), hf]
      · rw [if_neg c, h2]
        by_cases d : base ≤ id ∧ id < base + n
        · rw [if_pos d, if_pos (by omega)]
        · rw [if_neg d, if_neg (by omega)]

section
variable {P : Program} {callF : CallF} {ops : Array Oper} {base : Nat} {L : List (Nat × List Nat)} {st : Nat → St} {ρ : Ren} {w : World} {a : Act} {listed : Array Bool}
variable {ρ0 : Ren} {H0 G : Heap} {w0 : World} {K : Nat}

/-- what has to lie ahead of the last effect was run -/
theorem Inv.behind [Base] (hI : Inv P ops base L st ρ0 H0 w0 listed K G ρ a w) (hP : Plan P ops L) {k i : Nat} {ag : List Nat} {o : Oper} (hk : L[k]? = some (i, ag)) (hn : Next ops listed i o) (hlt : k < K) :
    cls P o.op ≠ .eff ∧ cls P o.op ≠ .new ∧ (cls P o.op = .read → ∃ (k0 i0 : Nat) (ag0 : List Nat), K = k0 + 1 ∧ k < k0 ∧ L[k0]? = some (i0, ag0) ∧ i ∈ ag0) := by
  rcases hI.down with h | ⟨k0, i0, ag0, o0, h1, h2, h3, h4, h5⟩
  · omega
  have hne : k ≠ k0 := by
    intro e; subst e
    rw [hk] at h2; simp only [Option.some.injEq, Prod.mk.injEq] at h2
    obtain ⟨rfl, _⟩ := h2
    exact hn.out h5
  have hp := hP.pair h2 h3 hk hn.op (by omega)
  have hanc : ¬ Anc ops i0 i := fun hA => hn.out (anc_in hI.closed hA fun o2 e e1 e2 e3 => hI.closed i0 o2 e h5 e1 e2 e3)
  exact ⟨fun c => hanc (hp.effEff c h4), fun c => hanc (hp.newEff c h4), fun c => ⟨k0, i0, ag0, h1, by omega, h2, (hp.readEff c h4).resolve_left hanc⟩⟩

theorem Inv.clear [Base] (hI : Inv P ops base L st ρ0 H0 w0 listed K G ρ a w) (hP : Plan P ops L) {k i : Nat} {ag : List Nat} {o : Oper} (hk : L[k]? = some (i, ag)) (hn : Next ops listed i o) (hc : cls P o.op = .eff ∨ cls P o.op = .read) :
    ∀ (k' i' : Nat) (ag' : List Nat) (o' : Oper), K ≤ k' → k' < k → L[k']? = some (i', ag') → ops[i']? = some o' → cls P o'.op ≠ .eff ∧ (cls P o'.op = .new → inD listed i') := by
  intro k' i' ag' o' h1 h2 h3 h4
  have hp := hP.pair hk hn.op h3 h4 h2
  constructor
  · intro he
    have : Anc ops i i' := by rcases hc with hc | hc; exact hp.effEff he hc; exact hp.effRead he hc
    have := (hI.effs k' i' ag' o' h3 h4 he).1 (hn.anc hI.closed this)
    omega
  · intro he
    have : Anc ops i i' := by rcases hc with hc | hc; exact hp.newEff he hc; exact hp.newRead he hc
    exact hn.anc hI.closed this

theorem guard_sub {o : Oper} : ∀ t ∈ (match o.guard with | some (g, _) => ((ops[g]?).bind (·.dst)).toList | none => []), t ∈ o.looksAt ops := by
  intro t ht
  unfold Oper.looksAt
  exact List.mem_append.2 (.inr ht)

theorem operand_sub {o : Oper} : ∀ t ∈ tmpsOf o.op.operands.toList, t ∈ o.looksAt ops := by
  intro t ht
  unfold Oper.looksAt
  exact List.mem_append.2 (.inl ht)

theorem Inv.step_ok [Base] (hC : CallOk P callF) (hI : Inv P ops base L st ρ0 H0 w0 listed K G ρ a w) (hT : Trace P callF ops base L st) (hP : Plan P ops L) {i : Nat} (hi : i ∈ Region.ready .any ops listed)
    {Q : Exit → Act → World → Prop} {Kont : Act → World → Prop} (hK : ∀ K' G' ρ' a' w', Inv P ops base L st ρ0 H0 w0 (listed.setIfInBounds i true) K' G' ρ' a' w' → Kont a' w') : wpOp P ops Q i Kont a w := by
  obtain ⟨o, hn⟩ := ready_next hI.size hi
  obtain ⟨k, ag, hk⟩ := hP.onto i (lt_of_op hn.op)
  have hkl := (hP.lt hk).1
  have hil := (hP.lt hk).2
  have hl := hI.looks hT hP hk hn
  obtain ⟨o', ho', hx, _⟩ := hT k i ag hk
  rw [hn.op] at ho'; simp only [Option.some.injEq] at ho'; subst ho'
  unfold execW at hx
  simp only [Option.bind_eq_some_iff] at hx
  obtain ⟨b, hb, hx⟩ := hx
  have hw := wanted_run (ops := ops) (o := o) (hl.sub guard_sub) hb
  have hsee : Sees ρ (st k) a o.op.operands.toList := (hl.sub operand_sub).sees
  have hNk := trace_n hT hP k (by omega)
  have hval : ∀ v H', st (k + 1) = ({ st k with H := H' }).set o.dst v → ∀ t, Wr (st 0).n o t → (st (k + 1)).tmp t = v := by
    intro v H' h t ht
    rw [h, tmp_set, if_pos ⟨ht.1, by show t < (st k).n; rw [hNk]; exact ht.2⟩]
  unfold wpOp
  rw [hn.op]
  simp only [hw]
  cases b with
  | false =>
    simp only [Option.some.injEq] at hx
    simp only [Bool.false_eq_true, if_false]
    have hH : (st (k + 1)).H = (st k).H := by rw [← hx, set_H]
    have hds : (st (k + 1)).ds = (st k).ds := by rw [← hx, set_ds]
    have hu : ∀ t, Wr (st 0).n o t → VRel ρ ((st (k + 1)).tmp t) undef := by
      intro t ht
      rw [← hx, tmp_set, if_pos ⟨ht.1, by rw [hNk]; exact ht.2⟩]
      exact undef_rel
    by_cases hc : cls P o.op = .eff
    · have hKk : K ≤ k := by
        rcases Nat.lt_or_ge k K with h | h
        · exact absurd hc (hI.behind hP hk hn h).1
        · exact h
      obtain ⟨h1, h2, h3⟩ := hI.between hT hP k hKk (by omega) (hI.clear hP hk hn (.inl hc))
      refine hK _ _ _ _ _ (hI.more hP hk hn (df := a.defers) (K' := k + 1) (Ren.le_refl ρ) (.inr ⟨rfl, hc, hKk⟩) hI.rel (by rw [hH]; exact h1) ?_ ?_ (fun j e1 _ e2 => hI.gfree j e1 e2) (fun j e1 _ e2 => hI.fresh j e1 e2) hu (by rw [hds, h3]; exact hI.ds) hI.step hI.next)
      · rintro k2 i2 ag2 ob e1 e2 (rfl | e3) e4
        · have := hP.one e2 hk; omega
        · exact hI.made k2 i2 ag2 ob (by omega) e2 e3 e4
      · intro k2 i2 ag2 e1 e2
        rw [hH]
        exact h2 k2 i2 ag2 (by omega) e2
    · refine hK _ _ _ _ _ (hI.looked hP hk hn hc ?_ hu)
      rintro ob ⟨o2, h1, h2, h3, _⟩
      rw [hn.op] at h1; simp only [Option.some.injEq] at h1; subst h1
      rw [hb] at h3; cases h3
  | true =>
    simp only [if_true]
    refine .inl ?_
    cases hcl : cls P o.op with
    | pure =>
      obtain ⟨v, H', h1, h2⟩ := execOper_local (by rw [hcl]; simp) hx
      obtain ⟨_, h3⟩ := opLocal_pure hcl h1
      obtain ⟨_, u, hrun, hv⟩ := opLocal_still (s := { st k with H := G }) (a := a) hI.rel (fun x hx v hv => hsee x hx v (by rw [eval_H] at hv; exact hv)) (by rw [hcl]; rfl) (h3 G none)
      unfold Oper.wp
      rw [hrun, Oper.upon_value]
      refine hK _ _ _ _ _ (hI.looked hP hk hn (by rw [hcl]; simp) ?_ (fun t ht => by rw [hval v H' h2 t ht]; exact hv))
      rintro ob ⟨o2, h1, h2, _⟩
      rw [hn.op] at h1; simp only [Option.some.injEq] at h1; subst h1
      rw [hcl] at h2; cases h2
    | read =>
      obtain ⟨v, H', h1, h2⟩ := execOper_local (by rw [hcl]; simp) hx
      have hno : ∀ ob, ¬ MadeAt P ops base st k i ob := by
        rintro ob ⟨o2, h1, h2, _⟩
        rw [hn.op] at h1; simp only [Option.some.injEq] at h1; subst h1
        rw [hcl] at h2; cases h2
      have hrest : ∃ u, (execOp a.eval o).run P w = .ok (.value u) w ∧ ∀ t, Wr (st 0).n o t → VRel ρ ((st (k + 1)).tmp t) u := by
        rcases Nat.lt_or_ge k K with hlt | hge
        · obtain ⟨k0, i0, ag0, e1, e2, e3, e4⟩ := (hI.behind hP hk hn hlt).2.2 hcl
          obtain ⟨o0, ho0, _, hag⟩ := hT k0 i0 ag0 e3
          have hk0 := (hP.lt e3).1
          have hs := List.all_eq_true.1 hag i e4
          rw [← e1] at hs
          have hsame : ∀ t ∈ o.looksAt ops, (st K).tmp t = (st k).tmp t := by
            intro t ht
            refine trace_keep hT hP K (by omega) (by omega) ?_
            intro k2 i2 ag2 o2 f1 f2 f3 f4 f5
            by_cases hkk : k2 = k
            · subst hkk
              rw [hk] at f3; simp only [Option.some.injEq, Prod.mk.injEq] at f3
              obtain ⟨rfl, _⟩ := f3
              rw [hn.op] at f4; simp only [Option.some.injEq] at f4; subst f4
              exact (hP.get hk hn.op).self t f5.1 ht
            · exact ((hP.pair f3 f4 hk hn.op (by omega)).anti t f5.1 ht).2 hcl
          have hw2 : wanted (st K) ops o = some true := by
            rw [wanted_tmp (s := st k) (fun t ht => hsame t (guard_sub t ht))]; exact hb
          unfold stillD at hs
          rw [hn.op] at hs
          simp only [hw2] at hs
          cases hop : opLocal P (st K) none o.op with
          | none => rw [hop] at hs; cases hs
          | some r =>
            obtain ⟨v', H2⟩ := r
            rw [hop] at hs
            have hl2 : Looks ρ (st K) a (o.looksAt ops) := fun t ht => by rw [hsame t ht]; exact hl t ht
            obtain ⟨_, u, hrun, hv⟩ := opLocal_still (a := a) (hI.rel.sub hI.sub) ((hl2.sub operand_sub).sees) (by rw [hcl]; rfl) hop
            refine ⟨u, hrun, fun t ht => ?_⟩
            rw [ht.1] at hs
            have heq := AV.same_eq _ _ hs
            have hkeep : (st K).tmp t = (st (k + 1)).tmp t := by
              refine trace_keep hT hP K (by omega) (by omega) ?_
              intro k2 i2 ag2 o2 f1 f2 f3 f4 f5
              exact (hP.pair f3 f4 hk hn.op (by omega)).once t ht.1 f5.1
            rw [← hkeep, ← heq]
            exact hv
        · obtain ⟨g1, _, _⟩ := hI.between hT hP k hge (by omega) (hI.clear hP hk hn (.inr hcl))
          obtain ⟨_, u, hrun, hv⟩ := opLocal_still (a := a) (hI.rel.sub g1) hsee (by rw [hcl]; rfl) h1
          exact ⟨u, hrun, fun t ht => by rw [hval v H' h2 t ht]; exact hv⟩
      obtain ⟨u, hrun, hv⟩ := hrest
      unfold Oper.wp
      rw [hrun, Oper.upon_value]
      exact hK _ _ _ _ _ (hI.looked hP hk hn (by rw [hcl]; simp) hno hv)
    | new =>
      have hKk : K ≤ k := by
        rcases Nat.lt_or_ge k K with h | h
        · exact absurd hcl (hI.behind hP hk hn h).2.1
        · exact h
      obtain ⟨v, H', h1, h2⟩ := execOper_local (by rw [hcl]; simp) hx
      rw [if_pos hcl] at h1
      obtain ⟨ob, _, h4, h5⟩ := opLocal_new hcl h1
      let Hm : Heap := { m := .leaf, next := G.next }
      have hmg : ∀ j, Hm.get j = none := fun j => by show (Tr.leaf : Tr AObj).get j = none; cases j <;> rfl
      have hms : Sub Hm G := ⟨rfl, fun j q hj => by rw [hmg] at hj; cases hj⟩
      have hbi : base + i < G.next := by have := hI.next; omega
      have hfi := hI.fresh i hil hn.out
      obtain ⟨ρ', w', u, hrun, hv, hr', hst'⟩ := opLocal_run (s := { st k with H := Hm }) (a := a) (hI.rel.sub hms) (fun x hx v hv => hsee x hx v (by rw [eval_H] at hv; exact hv)) (fun j hj => by simp only [Option.some.injEq] at hj; rw [← hj]; exact hfi) (h5 Hm (hmg _) hbi)
      have hg : ∀ j q, (G.put (base + i) ob).get j = some q → q.live → (Hm.put (base + i) ob).get j = some q ∨ (G.get j = some q ∧ ∀ o', Hm.get j = some o' → ¬ o'.live) := by
        intro j q hj _
        rw [Heap.get_put] at hj ⊢
        by_cases e : j = base + i
        · rw [if_pos e] at hj ⊢; exact .inl hj
        · rw [if_neg e] at hj; exact .inr ⟨hj, fun o' ho' => by rw [hmg] at ho'; cases ho'⟩
      obtain ⟨hr2, _⟩ := hI.rel.beside (G' := G.put (base + i) ob) hms hst' hr' rfl hg
      have hst2 := Step.beside (G' := G.put (base + i) ob) hI.step hI.rel hms hst' rfl (fun j hj => by simp only [Option.some.injEq] at hj; have := hI.basis; omega) hg
      have hfr : ∀ j, j < ops.size → j ≠ i → ¬ inD listed j → ρ' (base + j) = none := by
        intro j e1 e2 e3
        cases hc : ρ' (base + j) with
        | none => rfl
        | some e =>
          rcases hst'.new (base + j) e (hI.fresh j e1 e3) hc with h | h
          · have := hI.next; have h : G.next ≤ base + j := h; omega
          · simp only [Option.some.injEq] at h; omega
      have hinv := hI.more (G' := G.put (base + i) ob) (u := u) (df := a.defers) hP hk hn hst'.ext (.inl ⟨rfl, by rw [hcl]; simp⟩) hr2 (⟨hI.sub.next, fun j q hj hq => by
          rw [Heap.get_put]
          by_cases e : j = base + i
          · subst e; exact absurd hq (hI.nl k i ag hKk hk q hj)
          · rw [if_neg e]; exact hI.sub.get j q hj hq⟩) (by
          rintro k2 i2 ag2 ob2 e1 e2 e3 e4
          rw [Heap.get_put]
          by_cases e : i2 = i
          · subst e
            have := hP.one e2 hk; subst this
            rw [if_pos rfl]
            obtain ⟨_, _, _, _, hput⟩ := e4
            rw [h2, set_H] at hput
            have hz : ((st k2).H.put (base + i2) ob).get (base + i2) = ((st k2).H.put (base + i2) ob2).get (base + i2) := by rw [← h4]; exact congrArg (fun H : Heap => H.get (base + i2)) hput
            rw [Heap.get_put, Heap.get_put, if_pos rfl, if_pos rfl] at hz
            exact hz
          · rw [if_neg (by omega)]
            exact hI.made k2 i2 ag2 ob2 e1 e2 (e3.resolve_left e) e4) hI.nl (by
          intro j e1 e2 e3 q hq hql
          obtain ⟨e, he, _⟩ := hr2.obj (base + j) q hq hql
          rw [hfr j e1 e2 e3] at he; cases he) hfr (fun t ht => by rw [hval v H' h2 t ht]; exact hv) (hI.ds.mono hst'.ext) hst2 hI.next
      unfold Oper.wp
      rcases hrun with hrun | ⟨hrun, rfl⟩
      · rw [hrun, Oper.upon_value]; exact hK _ _ _ _ _ hinv
      · rw [hrun, Oper.upon_skip]; exact hK _ _ _ _ _ hinv
    | eff =>
      have hKk : K ≤ k := by
        rcases Nat.lt_or_ge k K with h | h
        · exact absurd hcl (hI.behind hP hk hn h).1
        · exact h
      obtain ⟨g1, g2, g3⟩ := hI.between hT hP k hKk (by omega) (hI.clear hP hk hn (.inl hcl))
      have hrk := hI.rel.sub g1
      refine execOper_wp hC hrk hsee (fun j hj => by rw [if_neg (by rw [hcl]; simp)] at hj; cases hj) hx ?_
      intro ρ' w' v u df hs' hv hr' hst hdf
      rw [if_neg (by rw [hcl]; simp)] at hst
      have hnext := g1.next
      open Classical in
      obtain ⟨G', hgn, hgg⟩ := exists_heap base (fun id => if ∃ (k2 i2 : Nat) (ag2 : List Nat), k + 1 ≤ k2 ∧ L[k2]? = some (i2, ag2) ∧ inD listed i2 ∧ id = base + i2 then G.get id else none) (st (k + 1)).H ops.size
      have hnl' : ∀ (k2 i2 : Nat) (ag2 : List Nat), k + 1 ≤ k2 → L[k2]? = some (i2, ag2) → ∀ q, (st (k + 1)).H.get (base + i2) = some q → ¬ q.live := by
        intro k2 i2 ag2 e1 e2
        refine hst.old (base + i2) ?_ (g2 k2 i2 ag2 (by omega) e2) (by simp)
        have := hI.next; have := (hP.lt e2).2; omega
      have hg : ∀ j q, G'.get j = some q → q.live → (st (k + 1)).H.get j = some q ∨ (G.get j = some q ∧ ∀ o', (st k).H.get j = some o' → ¬ o'.live) := by
        intro j q hj hq
        rw [hgg] at hj
        split at hj
        · split at hj
          · rename_i q' hq'
            split at hq'
            · rename_i hex
              obtain ⟨k2, i2, ag2, e1, e2, e3, rfl⟩ := hex
              exact .inr ⟨by rw [hq']; exact hj, g2 k2 i2 ag2 (by omega) e2⟩
            · cases hq'
          · exact .inl hj
        · exact .inl hj
      obtain ⟨hr2, _⟩ := hI.rel.beside (G' := G') g1 hst hr' hgn hg
      have hst2 := Step.beside (G' := G') hI.step hI.rel g1 hst hgn (fun j hj => by cases hj) hg
      have hfr : ∀ j, j < ops.size → j ≠ i → ¬ inD listed j → ρ' (base + j) = none := by
        intro j e1 e2 e3
        cases hc : ρ' (base + j) with
        | none => rfl
        | some e =>
          rcases hst.new (base + j) e (hI.fresh j e1 e3) hc with h | h
          · have := hI.next; omega
          · cases h
      refine hK _ _ _ _ _ (hI.more (K' := k + 1) (G' := G') (u := u) (df := df) hP hk hn hst.ext (.inr ⟨rfl, hcl, hKk⟩) hr2 ⟨hgn.symm, fun j q hj hq => ?_⟩ ?_ hnl' ?_ hfr ?_ ?_ hst2 ?_)
      · rw [hgg]
        split
        · split
          · rename_i q' hq'
            split at hq'
            · rename_i hex
              obtain ⟨k2, i2, ag2, e1, e2, e3, rfl⟩ := hex
              exact absurd hq (hnl' k2 i2 ag2 e1 e2 q hj)
            · cases hq'
          · exact hj
        · exact hj
      · rintro k2 i2 ag2 ob e1 e2 (rfl | e3) e4
        · have := hP.one e2 hk; omega
        · have hgm := hI.made k2 i2 ag2 ob (by omega) e2 e3 e4
          have := (hP.lt e2).2
          rw [hgg, if_pos ⟨by omega, by omega⟩, if_pos ⟨k2, i2, ag2, e1, e2, e3, rfl⟩, hgm]
      · intro j e1 e2 e3 q hq hql
        obtain ⟨e, he, _⟩ := hr2.obj (base + j) q hq hql
        rw [hfr j e1 e2 e3] at he; cases he
      · intro t ht
        rw [hs', tmp_set, if_pos ⟨ht.1, by show t < (st k).n; rw [hNk]; exact ht.2⟩]
        exact hv
      · rcases hdf with ⟨e1, e2⟩ | ⟨d, x, e1, e2, hd⟩
        · rw [e1, e2, g3]; exact hI.ds.mono hst.ext
        · rw [e1, e2, g3]; exact ⟨hd, hI.ds.mono hst.ext⟩
      · rw [hgn]; have := hst.nle; have := hI.next; omega
end
end AE

/- The abstract evaluator is sound. Conditions: none. -/
namespace AE
open Go

def cntN (listed : Array Bool) : Nat → Nat
  | 0 => 0
  | k + 1 => cntN listed k + if listed.getD k false = true then 0 else 1

theorem cntN_zero {listed : Array Bool} : ∀ m, cntN listed m = 0 → ∀ i, i < m → inD listed i
  | 0, _, i, hi => by omega
  | m + 1, h, i, hi => by
    simp only [cntN] at h
    by_cases e : i = m
    · subst e
      unfold inD
      by_cases c : listed.getD i false = true
      · exact c
      · rw [if_neg c] at h; omega
    · exact cntN_zero m (by omega) i (by omega)

theorem cntN_set {listed : Array Bool} {i : Nat} (hi : i < listed.size) (hn : ¬ inD listed i) : ∀ m, cntN (listed.setIfInBounds i true) m + (if i < m then 1 else 0) = cntN listed m
  | 0 => by simp [cntN]
  | m + 1 => by
    have ih := cntN_set hi hn m
    simp only [cntN]
    have hd := inD_set (listed := listed) hi m
    unfold inD at hd hn
    by_cases e : i = m
    · subst e
      rw [if_neg (by omega)] at ih
      rw [if_pos (hd.2 (.inl rfl)), if_neg hn, if_pos (by omega)]
      omega
    · by_cases c : listed.getD m false = true
      · rw [if_pos (hd.2 (.inr c)), if_pos c]
        by_cases d : i < m
        · rw [if_pos d] at ih; rw [if_pos (by omega)]; omega
        · rw [if_neg d] at ih; rw [if_neg (by omega)]; omega
      · rw [if_neg (fun h => by rcases hd.1 h with h | h; exact e h.symm; exact c h), if_neg c]
        by_cases d : i < m
        · rw [if_pos d] at ih; rw [if_pos (by omega)]; omega
        · rw [if_neg d] at ih; rw [if_neg (by omega)]; omega

theorem cntN_start : ∀ m n, m ≤ n → cntN (Array.replicate n false) m = m
  | 0, _, _ => rfl
  | m + 1, n, h => by
    simp only [cntN, cntN_start m n (by omega)]
    rw [if_neg]
    simp only [Array.getD_eq_getD_getElem?]
    rw [Array.getElem?_replicate]
    split <;> simp

theorem Step.sub {at_ : Option Nat} {ρ ρ' : Ren} {H G Hb : Heap} {w w' : World} (h : Step at_ ρ H w ρ' G w') (hs : Sub Hb G) : Step at_ ρ H w ρ' Hb w' :=
  ⟨h.ext, h.new, by rw [hs.next]; exact h.nle, h.size, h.frame, fun i o e hi hl => h.live i o e (hs.get i o hi hl) hl, h.os, h.tape, h.output, fun i hi hn ha o ho hl => h.old i hi hn ha o (hs.get i o ho hl) hl⟩

section
variable {P : Program} {callF : CallF} {ops : Array Oper} {base : Nat} {L : List (Nat × List Nat)} {st : Nat → St} {ρ : Ren} {w : World} {a : Act} {listed : Array Bool} {s s' : St}
variable {ρ0 : Ren} {H0 G : Heap} {w0 : World} {K : Nat}

theorem Inv.done [Base] (hI : Inv P ops base L st ρ0 H0 w0 listed K G ρ a w) (hP : Plan P ops L) (h : Region.ready .any ops listed = []) : ∀ i, i < ops.size → inD listed i := by
  have key : ∀ (k i : Nat) (ag : List Nat), L[k]? = some (i, ag) → inD listed i := by
    intro k
    induction k using Nat.strongRecOn with
    | _ k ih =>
      intro i ag hk
      obtain ⟨o, ho⟩ := hP.op hk
      have hil := (hP.lt hk).2
      by_cases hin : inD listed i
      · exact hin
      exfalso
      have : i ∈ Region.ready .any ops listed := by
        unfold Region.ready
        simp only [List.mem_filter, List.mem_range, Bool.and_eq_true, Bool.not_eq_true']
        refine ⟨hil, ?_, ?_⟩
        · unfold inD at hin
          simp only [Array.getD_eq_getD_getElem?] at hin ⊢
          rw [Array.getElem?_eq_getElem (by rw [hI.size]; exact hil)] at hin ⊢
          simpa using hin
        · rw [ho]
          simp only [Option.map_some, Option.getD_some]
          refine Array.all_eq_true'.2 fun e he => ?_
          rw [binds_any]
          by_cases hb : bindsAny e = true
          · obtain ⟨k', ag', hlt, hk'⟩ := (hP.get hk ho).edges e (Array.mem_toList_iff.2 he) hb
            have := ih k' hlt e.on ag' hk'
            unfold inD at this
            simp [this]
          · simp [hb]
      rw [h] at this
      cases this
  intro i hi
  obtain ⟨k, ag, hk⟩ := hP.onto i hi
  exact key k i ag hk

theorem Inv.all [Base] (hI : Inv P ops base L st ρ0 H0 w0 listed K G ρ a w) (hT : Trace P callF ops base L st) (hP : Plan P ops L) (h : ∀ i, i < ops.size → inD listed i) :
    Rel P ρ (st ops.size).H w ∧ FRel P ρ (st ops.size) a ∧ Step none ρ0 H0 w0 ρ (st ops.size).H w := by
  have hK : K ≤ ops.size := by
    rcases hI.down with h | ⟨k, i, ag, o, h1, h2, _⟩
    · omega
    · have := (hP.lt h2).1; omega
  obtain ⟨g1, _, g3⟩ := hI.between hT hP ops.size hK (Nat.le_refl _) (by
    intro k' i ag o h1 h2 h3 h4
    refine ⟨fun hc => ?_, fun _ => h i (hP.lt h3).2⟩
    have := (hI.effs k' i ag o h3 h4 hc).1 (h i (hP.lt h3).2)
    omega)
  refine ⟨hI.rel.sub g1, ⟨fun t => ?_, by rw [trace_n hT hP _ (Nat.le_refl _)]; exact hI.n, by rw [g3]; exact hI.ds⟩, hI.step.sub g1⟩
  by_cases hw : ∃ (k' j : Nat) (ag' : List Nat) (oj : Oper), L[k']? = some (j, ag') ∧ ops[j]? = some oj ∧ Wr (st 0).n oj t
  · obtain ⟨k', j, ag', oj, hk', hoj, hwr⟩ := hw
    have hkl := (hP.lt hk').1
    rw [trace_keep hT hP ops.size (m := k' + 1) (by omega) (Nat.le_refl _) (fun k2 i2 ag2 o2 h1 h2 hk2 ho2 hw2 => (hP.pair hk2 ho2 hk' hoj (by omega)).once t hwr.1 hw2.1)]
    exact hI.t2 k' j ag' oj t hk' hoj (h j (hP.lt hk').2) hwr
  · rw [trace_keep hT hP ops.size (m := 0) (by omega) (Nat.le_refl _) (fun k2 i2 ag2 o2 h1 h2 hk2 ho2 hw2 => hw ⟨k2, i2, ag2, o2, hk2, ho2, hw2⟩)]
    refine hI.t1 t fun i2 o2 ho2 hw2 => ?_
    obtain ⟨k2, ag2, hk2⟩ := hP.onto i2 (lt_of_op ho2)
    exact absurd ⟨k2, i2, ag2, o2, hk2, ho2, hw2⟩ hw

theorem any_wp [Base] (hC : CallOk P callF) (hT : Trace P callF ops base L st) (hP : Plan P ops L) {Q : Exit → Act → World → Prop}
    (hQ : ∀ ρ a w, Rel P ρ (st ops.size).H w → FRel P ρ (st ops.size) a → Step none ρ0 H0 w0 ρ (st ops.size).H w → Q .normal a w) : ∀ (fuel : Nat) (listed : Array Bool) (K : Nat) (G : Heap) (ρ : Ren) (a : Act) (w : World),
    Inv P ops base L st ρ0 H0 w0 listed K G ρ a w → cntN listed ops.size ≤ fuel → wpAny P .any ops Q fuel listed a w := by
  intro fuel
  induction fuel with
  | zero =>
    intro listed K G ρ a w hI hc
    have hall := cntN_zero (listed := listed) ops.size (by omega)
    obtain ⟨h1, h2, h3⟩ := hI.all hT hP hall
    refine ⟨?_, hQ ρ a w h1 h2 h3⟩
    unfold Region.ready
    rw [List.filter_eq_nil_iff]
    intro i hi
    have := hall i (List.mem_range.1 hi)
    unfold inD at this
    simp only [Array.getD_eq_getD_getElem?] at this ⊢
    rw [Array.getElem?_eq_getElem (by rw [hI.size]; exact List.mem_range.1 hi)] at this ⊢
    simp only [Option.getD_some] at this ⊢
    simp [this]
  | succ fuel ih =>
    intro listed K G ρ a w hI hc
    refine ⟨fun hr => ?_, fun i hi => ?_⟩
    · obtain ⟨h1, h2, h3⟩ := hI.all hT hP (hI.done hP hr)
      exact hQ ρ a w h1 h2 h3
    · obtain ⟨o, hn⟩ := ready_next hI.size hi
      have hil := lt_of_op hn.op
      refine hI.step_ok hC hT hP hi fun K' G' ρ' a' w' hI' => ih _ K' G' ρ' a' w' hI' ?_
      have := cntN_set (listed := listed) (by rw [hI.size]; exact hil) hn.out ops.size
      rw [if_pos hil] at this
      omega

theorem drawOk_sound [Base] (hm : P.follows .mixedOrders = true) (hC : CallOk P callF) : DrawOk P (drawOk P) callF := by
  intro id ops s s' hd h ρ a w hr hf
  have hP := drawOk_plan hd
  unfold execDraw at h
  obtain ⟨st, h0, hn, hT⟩ := trace_of _ _ _ h
  have hlen := hP.len
  have hst0H : (st 0).H = { s.H with next := s.H.next + ops.size } := by rw [h0]
  have hget : ∀ j, (st 0).H.get j = s.H.get j := fun j => by rw [hst0H]; rfl
  have hout : ∀ i, ¬ inD (Array.replicate ops.size false) i := by
    intro i
    unfold inD
    simp only [Array.getD_eq_getD_getElem?]
    rw [Array.getElem?_replicate]
    split <;> simp
  have hnone : ∀ i, ρ (s.H.next + i) = none := by
    intro i
    cases hc : ρ (s.H.next + i) with
    | none => rfl
    | some e => have := hr.nxt _ _ hc; omega
  have hnl : ∀ i o, s.H.get (s.H.next + i) = some o → ¬ o.live := by
    intro i o ho hl
    obtain ⟨e, he, _⟩ := hr.obj _ o ho hl
    rw [hnone] at he; cases he
  have hrel : Rel P ρ (st 0).H { w with drawn := w.drawn + 1 } :=
    ⟨fun i o hi hl => hr.obj i o (by rw [← hget]; exact hi) hl, fun i j o o' e e' hi hl hj hl' => hr.inj i j o o' e e' (by rw [← hget]; exact hi) hl (by rw [← hget]; exact hj) hl', hr.rng,
      fun i e he => by have := hr.nxt i e he; rw [hst0H]; show i < s.H.next + ops.size; omega, fun b o hk => ⟨(hr.kept b o hk).1, fun i q e hi hl he => (hr.kept b o hk).2 i q e (by rw [← hget]; exact hi) hl he⟩⟩
  have hI : Inv P ops s.H.next (drawPlan P ops) st ρ s.H w (Array.replicate ops.size false) 0 (st 0).H ρ a { w with drawn := w.drawn + 1 } := by
    refine ⟨by simp, ?_, .inl rfl, ?_, hrel, ⟨rfl, fun i o hi _ => hi⟩, ?_, ?_, ?_, fun i _ _ => hnone i, ?_, ?_, ?_, ?_, ?_, rfl, by rw [hst0H]; exact Nat.le_refl _⟩
    · intro k i ag o _ _ _
      exact ⟨fun h => absurd h (hout i), fun h => by omega⟩
    · intro i o e hi; exact absurd hi (hout i)
    · intro k i ag ob _ _ hi; exact absurd hi (hout i)
    · intro k i ag _ _ o ho; rw [hget] at ho; exact hnl i o ho
    · intro i _ _ o ho; rw [hget] at ho; exact hnl i o ho
    · intro t _; rw [h0]; exact hf.tmps t
    · intro k i ag o t _ _ hi; exact absurd hi (hout i)
    · rw [h0]; exact hf.n
    · rw [h0]; exact hf.ds
    · refine ⟨Ren.le_refl ρ, fun i e h h' => (by rw [h] at h'; cases h'), by rw [hst0H]; exact Nat.le_add_right .., Nat.le_refl _, fun _ _ _ => rfl, fun i o e h l r _ => ⟨i, o, e, by rw [← hget]; exact h, l, r, rfl⟩, rfl, rfl, rfl, fun i _ h _ o ho => h o (by rw [← hget]; exact ho)⟩
  refine wp_region_any hm (any_wp hC hT hP (ρ0 := ρ) (H0 := s.H) (w0 := w) ?_ ops.size _ 0 _ ρ a _ hI (by rw [cntN_start _ _ (Nat.le_refl _)]; exact Nat.le_refl _))
  intro ρ' a' w' h1 h2 h3
  have hs' : st ops.size = s' := by rw [← hlen]; exact hn
  rw [hs'] at h1 h2 h3
  exact ⟨rfl, ρ', h1, h2, h3⟩

/-- THE ABSTRACT EVALUATOR IS SOUND. -/
theorem sound [Base] {X : Spec} (hX : SpecOk P X) (hP : ProgOk P (drawOk P)) (hm : P.follows .mixedOrders = true) {n : Nat} {f : FuncId} {vs : List AV} {H H' : Heap} {v : AV} (h : callN P X n false f vs H = some (v, H')) {ρ : Ren} {w : World} {us : List Value}
    (hr : Rel P ρ H w) (hu : VRels ρ vs us) :
    ((callFunc f us.toArray).run P w = .ok (.enter f us.toArray) w ∧ Calls P f us.toArray w (Post P ρ H w v H')) ∨ (∃ u, (callFunc f us.toArray).run P w = .ok (.value u) w ∧ VRel ρ v u ∧ H' = H) :=
  (callN_sound hX hP (fun _ hC => drawOk_sound hm hC) n).1 f vs H v H' h ρ w us hr hu
end
end AE
