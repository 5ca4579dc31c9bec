/- The abstract evaluator: regions that draw their order. What holds when some of the operations were run. Conditions: none. -/
import Derived.Test.YtandggoanbdjkaaGreatDoorAEDraw3
namespace AE
open Go

def inD (listed : Array Bool) (i : Nat) : Prop := listed.getD i false = true

/-- an operation that lays a temporary -/
def Wr (N : Nat) (o : Oper) (t : Nat) : Prop := o.dst = some t ∧ t < N

theorem binds_any (e : Edge) : Region.binds .any e = bindsAny e := by
  unfold Region.binds bindsAny
  cases e.ground <;> rfl

section
variable {P : Program} {callF : CallF} {ops : Array Oper} {base : Nat} {L : List (Nat × List Nat)} {st : Nat → St} {ρ : Ren} {w : World} {s s' : St} {a : Act} {listed : Array Bool}

theorem Plan.get (hP : Plan P ops L) {k i : Nat} {ag : List Nat} {o : Oper} (hk : L[k]? = some (i, ag)) (ho : ops[i]? = some o) :
    PlanAt P ops (fun j => ∃ (k' : Nat) (ag : List Nat), k' < k ∧ L[k']? = some (j, ag)) i ag o := by
  obtain ⟨o', h⟩ := hP.at_ k i ag hk
  have := h.op
  rw [ho] at this; simp only [Option.some.injEq] at this; subst this
  exact h

theorem Plan.op (hP : Plan P ops L) {k i : Nat} {ag : List Nat} (hk : L[k]? = some (i, ag)) : ∃ o, ops[i]? = some o := by
  obtain ⟨o, h⟩ := hP.at_ k i ag hk
  exact ⟨o, h.op⟩

theorem Plan.pair (hP : Plan P ops L) {k i k' j : Nat} {ag ag' : List Nat} {o oj : Oper} (hk : L[k]? = some (i, ag)) (ho : ops[i]? = some o) (hk' : L[k']? = some (j, ag')) (hoj : ops[j]? = some oj) (hlt : k' < k) :
    Pair P ops i o ag j oj := by
  obtain ⟨oj', h1, h2⟩ := (hP.get hk ho).pairs j ⟨k', ag', hlt, hk'⟩
  rw [hoj] at h1; simp only [Option.some.injEq] at h1; subst h1
  exact h2

theorem Plan.one (hP : Plan P ops L) {k k' i : Nat} {ag ag' : List Nat} (hk : L[k]? = some (i, ag)) (hk' : L[k']? = some (i, ag')) : k = k' := by
  obtain ⟨o, ho⟩ := hP.op hk
  rcases Nat.lt_trichotomy k k' with h | h | h
  · exact absurd ⟨k, ag, h, hk⟩ (hP.get hk' ho).fresh
  · exact h
  · exact absurd ⟨k', ag', h, hk'⟩ (hP.get hk ho).fresh

theorem Plan.lt (hP : Plan P ops L) {k i : Nat} {ag : List Nat} (hk : L[k]? = some (i, ag)) : k < ops.size ∧ i < ops.size := by
  constructor
  · rw [← hP.len]
    rcases Nat.lt_or_ge k L.length with h | h
    · exact h
    · rw [List.getElem?_eq_none h] at hk; cases hk
  · obtain ⟨o, ho⟩ := hP.op hk
    rcases Nat.lt_or_ge i ops.size with h | h
    · exact h
    · rw [Array.getElem?_eq_none h] at ho; cases ho

theorem lt_of_op {i : Nat} {o : Oper} (h : ops[i]? = some o) : i < ops.size := by
  rcases Nat.lt_or_ge i ops.size with h' | h'
  · exact h'
  · rw [Array.getElem?_eq_none h'] at h; cases h

def Closed (ops : Array Oper) (listed : Array Bool) : Prop := ∀ (i : Nat) (o : Oper) (e : Edge), inD listed i → ops[i]? = some o → e ∈ o.after.toList → bindsAny e = true → inD listed e.on

theorem anc_in (hc : Closed ops listed) {i j : Nat} (h : Anc ops i j) : (∀ (o : Oper) (e : Edge), ops[i]? = some o → e ∈ o.after.toList → bindsAny e = true → inD listed e.on) → inD listed j := by
  induction h with
  | edge ho he hb => intro hi; exact hi _ _ ho he hb
  | more ho he hb _ ih => intro hi; exact ih fun o e h1 h2 h3 => hc _ o e (hi _ _ ho he hb) h1 h2 h3

/-- Some operations were run: what holds. -/
structure Inv [Base] (P : Program) (ops : Array Oper) (base : Nat) (L : List (Nat × List Nat)) (st : Nat → St) (ρ0 : Ren) (H0 : Heap) (w0 : World) (listed : Array Bool) (K : Nat) (G : Heap) (ρ : Ren) (a : Act) (w : World) : Prop where
  size : listed.size = ops.size
  effs : ∀ (k i : Nat) (ag : List Nat) (o : Oper), L[k]? = some (i, ag) → ops[i]? = some o → cls P o.op = .eff → (inD listed i ↔ k < K)
  down : K = 0 ∨ ∃ (k i : Nat) (ag : List Nat) (o : Oper), K = k + 1 ∧ L[k]? = some (i, ag) ∧ ops[i]? = some o ∧ cls P o.op = .eff ∧ inD listed i
  closed : Closed ops listed
  rel : Rel P ρ G w
  sub : Sub (st K).H G
  made : ∀ (k i : Nat) (ag : List Nat) (ob : AObj), K ≤ k → L[k]? = some (i, ag) → inD listed i → MadeAt P ops base st k i ob → G.get (base + i) = some ob
  nl : ∀ (k i : Nat) (ag : List Nat), K ≤ k → L[k]? = some (i, ag) → ∀ o, (st K).H.get (base + i) = some o → ¬ o.live
  gfree : ∀ i, i < ops.size → ¬ inD listed i → ∀ o, G.get (base + i) = some o → ¬ o.live
  fresh : ∀ i, i < ops.size → ¬ inD listed i → ρ (base + i) = none
  t1 : ∀ t, (∀ (i : Nat) (o : Oper), ops[i]? = some o → Wr (st 0).n o t → ¬ inD listed i) → VRel ρ ((st 0).tmp t) (a.tmps.getD t undef)
  t2 : ∀ (k i : Nat) (ag : List Nat) (o : Oper) (t : Nat), L[k]? = some (i, ag) → ops[i]? = some o → inD listed i → Wr (st 0).n o t → VRel ρ ((st (k + 1)).tmp t) (a.tmps.getD t undef)
  n : (st 0).n = a.tmps.size
  ds : DefsOk P ρ (st K).ds a.defers
  step : Step none ρ0 H0 w0 ρ G w
  basis : H0.next = base
  next : base + ops.size ≤ G.next

theorem trace_n (hT : Trace P callF ops base L st) (hP : Plan P ops L) : ∀ k, k ≤ ops.size → (st k).n = (st 0).n
  | 0, _ => rfl
  | k + 1, hk => by
    have hl : k < L.length := by rw [hP.len]; omega
    obtain ⟨o, ho⟩ := hP.op (List.getElem?_eq_getElem hl)
    rw [(trace_tmp hT (List.getElem?_eq_getElem hl) ho).2, trace_n hT hP k (by omega)]

/-- a temporary that nothing lays between two places -/
theorem trace_keep (hT : Trace P callF ops base L st) (hP : Plan P ops L) {t m : Nat} : ∀ q, m ≤ q → q ≤ ops.size →
    (∀ (k i : Nat) (ag : List Nat) (o : Oper), m ≤ k → k < q → L[k]? = some (i, ag) → ops[i]? = some o → ¬ Wr (st 0).n o t) → (st q).tmp t = (st m).tmp t := by
  intro q
  induction q with
  | zero => intro hm _ _; have : m = 0 := by omega
            rw [this]
  | succ q ih =>
    intro hm hq hw
    by_cases hc : m = q + 1
    · rw [hc]
    have hl : q < L.length := by rw [hP.len]; omega
    have hk := List.getElem?_eq_getElem hl
    obtain ⟨o, ho⟩ := hP.op hk
    have hnw := hw q _ _ o (by omega) (by omega) hk ho
    rw [← ih (by omega) (by omega) (fun k i ag o h1 h2 => hw k i ag o h1 (by omega))]
    obtain ⟨o', ho', hx, _⟩ := hT q _ _ hk
    rw [ho] at ho'; simp only [Option.some.injEq] at ho'; subst ho'
    have hn := trace_n hT hP q (by omega)
    unfold execW at hx
    simp only [Option.bind_eq_some_iff] at hx
    obtain ⟨b, hb, hx⟩ := hx
    cases b with
    | false =>
      simp only [Option.some.injEq] at hx
      rw [← hx, tmp_set, if_neg (fun c => hnw ⟨c.1, by rw [← hn]; exact c.2⟩)]
    | true =>
      obtain ⟨v, hv⟩ := execOper_shape hx
      rw [hv, tmp_set, if_neg (fun c => hnw ⟨c.1, by rw [← hn]; exact c.2⟩)]
      rfl

variable {ρ0 : Ren} {H0 G : Heap} {w0 : World} {K : Nat}

/-- an operation that may come next -/
structure Next (ops : Array Oper) (listed : Array Bool) (i : Nat) (o : Oper) : Prop where
  op : ops[i]? = some o
  out : ¬ inD listed i
  edges : ∀ e ∈ o.after.toList, bindsAny e = true → inD listed e.on

theorem Next.anc {i : Nat} {o : Oper} (h : Next ops listed i o) (hc : Closed ops listed) {j : Nat} (ha : Anc ops i j) : inD listed j :=
  anc_in hc ha fun o' e h1 h2 h3 => by
    rw [h.op] at h1; simp only [Option.some.injEq] at h1; subst h1
    exact h.edges e h2 h3

theorem ready_next (hs : listed.size = ops.size) {i : Nat} (h : i ∈ Region.ready .any ops listed) : ∃ o, Next ops listed i o := by
  unfold Region.ready at h
  simp only [List.mem_filter, List.mem_range, Bool.and_eq_true, Bool.not_eq_true'] at h
  obtain ⟨hi, h1, h2⟩ := h
  obtain ⟨o, ho⟩ : ∃ o, ops[i]? = some o := ⟨ops[i], by simp [hi]⟩
  rw [ho] at h2
  simp only [Option.map_some, Option.getD_some] at h2
  refine ⟨o, ho, ?_, ?_⟩
  · unfold inD
    simp only [Array.getD_eq_getD_getElem?] at h1 ⊢
    rw [Array.getElem?_eq_getElem (by omega)] at h1 ⊢
    simp only [Option.getD_some] at h1 ⊢
    simp [h1]
  · intro e he hb
    have := Array.all_eq_true'.1 h2 e (Array.mem_toList_iff.1 he)
    rw [binds_any, hb] at this
    simpa [inD] using this

/-- what the next operation looks at is what the plan says -/
theorem Inv.looks [Base] (hI : Inv P ops base L st ρ0 H0 w0 listed K G ρ a w) (hT : Trace P callF ops base L st) (hP : Plan P ops L) {k i : Nat} {ag : List Nat} {o : Oper} (hk : L[k]? = some (i, ag)) (hn : Next ops listed i o) :
    Looks ρ (st k) a (o.looksAt ops) := by
  intro t ht
  have hkl := (hP.lt hk).1
  by_cases hw : ∃ (k' j : Nat) (ag' : List Nat) (oj : Oper), L[k']? = some (j, ag') ∧ ops[j]? = some oj ∧ Wr (st 0).n oj t
  · obtain ⟨k', j, ag', oj, hk', hoj, hwr⟩ := hw
    have only : ∀ (k2 i2 : Nat) (ag2 : List Nat) (o2 : Oper), L[k2]? = some (i2, ag2) → ops[i2]? = some o2 → Wr (st 0).n o2 t → k2 = k' := by
      intro k2 i2 ag2 o2 hk2 ho2 hw2
      rcases Nat.lt_trichotomy k2 k' with h | h | h
      · exact absurd hwr.1 ((hP.pair hk' hoj hk2 ho2 h).once t hw2.1)
      · exact h
      · exact absurd hw2.1 ((hP.pair hk2 ho2 hk' hoj h).once t hwr.1)
    rcases Nat.lt_trichotomy k' k with h | h | h
    · have hin := hn.anc hI.closed ((hP.pair hk hn.op hk' hoj h).data t hwr.1 ht)
      rw [trace_keep hT hP k (m := k' + 1) (by omega) (by omega) (fun k2 i2 ag2 o2 h1 h2 hk2 ho2 hw2 => by have := only k2 i2 ag2 o2 hk2 ho2 hw2; omega)]
      exact hI.t2 k' j ag' oj t hk' hoj hin hwr
    · subst h
      rw [hk] at hk'; simp only [Option.some.injEq, Prod.mk.injEq] at hk'
      obtain ⟨rfl, rfl⟩ := hk'
      rw [hn.op] at hoj; simp only [Option.some.injEq] at hoj; subst hoj
      exact absurd ht ((hP.get hk hn.op).self t hwr.1)
    · obtain ⟨hanc, _⟩ := (hP.pair hk' hoj hk hn.op h).anti t hwr.1 ht
      have hout : ¬ inD listed j := fun hj => hn.out (anc_in hI.closed hanc fun o2 e h1 h2 h3 => hI.closed j o2 e hj h1 h2 h3)
      rw [trace_keep hT hP k (m := 0) (by omega) (by omega) (fun k2 i2 ag2 o2 h1 h2 hk2 ho2 hw2 => by have := only k2 i2 ag2 o2 hk2 ho2 hw2; omega)]
      refine hI.t1 t fun i2 o2 ho2 hw2 => ?_
      obtain ⟨k2, ag2, hk2⟩ := hP.onto i2 (lt_of_op ho2)
      have := only k2 i2 ag2 o2 hk2 ho2 hw2
      subst this
      rw [hk'] at hk2; simp only [Option.some.injEq, Prod.mk.injEq] at hk2
      rw [← hk2.1]; exact hout
  · rw [trace_keep hT hP k (m := 0) (by omega) (by omega) (fun k2 i2 ag2 o2 h1 h2 hk2 ho2 hw2 => hw ⟨k2, i2, ag2, o2, hk2, ho2, hw2⟩)]
    refine hI.t1 t fun i2 o2 ho2 hw2 => ?_
    obtain ⟨k2, ag2, hk2⟩ := hP.onto i2 (lt_of_op ho2)
    exact absurd ⟨k2, i2, ag2, o2, hk2, ho2, hw2⟩ hw

/-- between the last effect and a place ahead of which all that was made was run -/
theorem Inv.between [Base] (hI : Inv P ops base L st ρ0 H0 w0 listed K G ρ a w) (hT : Trace P callF ops base L st) (hP : Plan P ops L) : ∀ k, K ≤ k → k ≤ ops.size →
    (∀ (k' i : Nat) (ag : List Nat) (o : Oper), K ≤ k' → k' < k → L[k']? = some (i, ag) → ops[i]? = some o → cls P o.op ≠ .eff ∧ (cls P o.op = .new → inD listed i)) →
    Sub (st k).H G ∧ (∀ (k' i : Nat) (ag : List Nat), k ≤ k' → L[k']? = some (i, ag) → ∀ o, (st k).H.get (base + i) = some o → ¬ o.live) ∧ (st k).ds = (st K).ds := by
  intro k
  induction k with
  | zero => intro hK _ _; have : K = 0 := by omega
            subst this; exact ⟨hI.sub, hI.nl, rfl⟩
  | succ k ih =>
    intro hK hk hb
    by_cases hc : K = k + 1
    · subst hc; exact ⟨hI.sub, hI.nl, rfl⟩
    obtain ⟨h1, h2, h3⟩ := ih (by omega) (by omega) (fun k' i ag o e1 e2 => hb k' i ag o e1 (by omega))
    have hl : k < L.length := by rw [hP.len]; omega
    obtain ⟨⟨i, ag⟩, hkk⟩ : ∃ p, L[k]? = some p := ⟨_, List.getElem?_eq_getElem hl⟩
    obtain ⟨o, ho⟩ := hP.op hkk
    obtain ⟨hne, hnew⟩ := hb k i ag o (by omega) (by omega) hkk ho
    obtain ⟨h4, h5⟩ := trace_look hT hkk ho hne
    refine ⟨?_, ?_, by rw [h4, h3]⟩
    · rcases h5 with h5 | ⟨ob, hm⟩
      · rw [h5]; exact h1
      · obtain ⟨o', ho', hcn, hwt, hput⟩ := hm
        rw [ho] at ho'; simp only [Option.some.injEq] at ho'; subst ho'
        have hg := hI.made k i ag ob (by omega) hkk (hnew hcn) ⟨o, ho, hcn, hwt, hput⟩
        refine ⟨by rw [hput]; exact h1.next, fun j q hj hq => ?_⟩
        rw [hput, Heap.get_put] at hj
        by_cases e : j = base + i
        · rw [if_pos e] at hj; simp only [Option.some.injEq] at hj; subst hj; rw [e]; exact hg
        · rw [if_neg e] at hj; exact h1.get j q hj hq
    · intro k' j ag' hk' hj q hq
      rcases h5 with h5 | ⟨ob, hm⟩
      · rw [h5] at hq; exact h2 k' j ag' (by omega) hj q hq
      · obtain ⟨o', ho', hcn, hwt, hput⟩ := hm
        rw [hput, Heap.get_put] at hq
        have : j ≠ i := fun e => by subst e; have := hP.one hkk hj; omega
        rw [if_neg (by omega)] at hq
        exact h2 k' j ag' (by omega) hj q hq
end
end AE
