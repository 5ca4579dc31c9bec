/- Pieces of a run, each found by the kernel, joined. Conditions: none. -/
import Derived.Test.YtandggoanbdjkaaGreatDoorWAEDraw4
import Derived.Test.YtandggoanbdjkaaGreatDoorWFE1
namespace AE
open Go Go.RowKit

/-! ### what is forgotten between two pieces -/

mutual
/-- do all the objects that a value names lie below N? -/
def AV.under (N : Nat) : AV → Bool
  | .ptr (some (i, _)) => Nat.blt i N
  | .slice (some (i, _)) _ _ _ => Nat.blt i N
  | .map (some i) => Nat.blt i N
  | .sym i _ => Nat.blt i N
  | .func _ x y => AV.unders N x && AV.unders N y
  | .iface _ v => AV.under N v
  | .agg xs => AV.unders N xs
  | .tuple xs => AV.unders N xs
  | _ => true
def AV.unders (N : Nat) : List AV → Bool
  | [] => true
  | x :: xs => AV.under N x && AV.unders N xs
end

/-- An object as it is told: a type, 'may it grow', its cells; or a map. -/
inductive Lay where
  | cells (t : TypeId) (g : Bool) (l : List AV)
  | map (es : List (AV × AV))

def Lay.obj : Lay → AObj
  | .cells t g l => .cells (.ofList t g l)
  | .map es => .map es

def sameEs : List (AV × AV) → List (AV × AV) → Bool
  | [], [] => true
  | (a, b) :: x, (c, d) :: y => AV.same a c && AV.same b d && sameEs x y
  | _, _ => false

def belowEs (N : Nat) : List (AV × AV) → Bool
  | [] => true
  | (a, b) :: x => AV.under N a && AV.under N b && belowEs N x

/-- does an object say at least what is told? -/
noncomputable def Lay.holds (N : Nat) : Lay → AObj → Bool
  | .cells t g l, .cells b => Nat.beq b.t t && (b.g == g) && Nat.beq b.n (FE.len l) && (match FE.bLoad b b.n 0 with | some l' => AV.sames l' l | none => false) && AV.unders N l
  | .map es, .map es' => sameEs es' es && belowEs N es
  | _, _ => false

noncomputable def mkHeap : List (Nat × Lay) → Tr AObj
  | [] => .leaf
  | (i, o) :: l => FE.trPut (mkHeap l) i o.obj

/-- A state as it is told: the temporaries that count (of the others nothing is known), how many there are, the objects that count, the next number. -/
structure Told where
  T : List (Nat × AV)
  n : Nat
  O : List (Nat × Lay)
  next : Nat

noncomputable def mkTop : Nat → Tr AV
  | 0 => .leaf
  | n + 1 => FE.trPut (mkTop n) n .top
noncomputable def mkTmps (n : Nat) : List (Nat × AV) → Tr AV
  | [] => mkTop n
  | (t, v) :: l => FE.trPut (mkTmps n l) t v

noncomputable def Told.st (d : Told) : St := { T := mkTmps d.n d.T, n := d.n, ds := [], H := { m := mkHeap d.O, next := d.next } }

noncomputable def tmpsHold (N : Nat) (T : Tr AV) : List (Nat × AV) → Bool
  | [] => true
  | (t, v) :: l => (match FE.trGet T t with | some v' => AV.same v' v && AV.under N v | none => false) && tmpsHold N T l
noncomputable def heapHolds (N : Nat) (m : Tr AObj) : List (Nat × Lay) → Bool
  | [] => true
  | (i, o) :: l => Nat.blt i N && (match FE.trGet m i with | some o' => o.holds N o' | none => false) && heapHolds N m l

/-- does a state say at least what is told? -/
noncomputable def Told.holds (d : Told) (s : St) : Bool :=
  Nat.beq s.n d.n && s.ds.isEmpty && tmpsHold d.next s.T d.T && heapHolds d.next s.H.m d.O

/-! ### -/
section
variable {P : Program}

/-- What a piece has done to the worlds. -/
structure Fr (ρ : Ren) (H : Heap) (w : World) (ρ' : Ren) (H' : Heap) (w' : World) : Prop where
  size : w.heap.size ≤ w'.heap.size
  frame : ∀ b, b < w.heap.size → (∀ i o e, H.get i = some o → o.live → ρ i = some e → e.blk ≠ b) → w'.heap[b]? = w.heap[b]?
  live : ∀ i o e, H'.get i = some o → o.live → ρ' i = some e → e.blk < w.heap.size → ∃ j o' e', H.get j = some o' ∧ o'.live ∧ ρ j = some e' ∧ e'.blk = e.blk
  os : w'.os = w.os
  tape : w'.tape = w.tape
  output : w'.output = w.output

theorem Step.fr {at_ : Option Nat} {ρ ρ' : Ren} {H H' : Heap} {w w' : World} (h : Step at_ ρ H w ρ' H' w') : Fr ρ H w ρ' H' w' := ⟨h.size, h.frame, h.live, h.os, h.tape, h.output⟩

theorem Fr.refl (ρ : Ren) (H : Heap) (w : World) : Fr ρ H w ρ H w := (Step.refl none ρ H w).fr

theorem Fr.trans {ρ ρ1 ρ2 : Ren} {H H1 H2 : Heap} {w w1 w2 : World} (h : Fr ρ H w ρ1 H1 w1) (k : Fr ρ1 H1 w1 ρ2 H2 w2) : Fr ρ H w ρ2 H2 w2 where
  size := Nat.le_trans h.size k.size
  frame b hb hn := by
    rw [k.frame b (Nat.lt_of_lt_of_le hb h.size) ?_, h.frame b hb hn]
    intro i o e hi hl hr he
    obtain ⟨j, o', e', hj, hl', hr', hb'⟩ := h.live i o e hi hl hr (he ▸ hb)
    exact hn j o' e' hj hl' hr' (hb'.trans he)
  live i o e hi hl hr hb := by
    obtain ⟨j, o', e', hj, hl', hr', hb'⟩ := k.live i o e hi hl hr (Nat.lt_of_lt_of_le hb h.size)
    obtain ⟨j2, o2, e2, hj2, hl2, hr2, hb2⟩ := h.live j o' e' hj hl' hr' (hb' ▸ hb)
    exact ⟨j2, o2, e2, hj2, hl2, hr2, hb2.trans hb'⟩
  os := k.os.trans h.os
  tape := k.tape.trans h.tape
  output := k.output.trans h.output

/-- no object at all below: nothing that lay there has turned -/
theorem Fr.below {ρ ρ' : Ren} {n : Nat} {H' : Heap} {w w' : World} (h : Fr ρ ⟨.leaf, n⟩ w ρ' H' w') : Below w.heap.size w w' :=
  ⟨h.os, h.tape, h.output, h.size, fun k hk => h.frame k hk fun i o e hi _ _ => by simp [Heap.get, Tr.get_leaf] at hi⟩

/-! ### renaming: names from N on are forgotten -/

def Ren.cut (ρ : Ren) (N : Nat) : Ren := fun i => if i < N then ρ i else none

theorem Ren.cut_some {ρ : Ren} {N i : Nat} {e : Ent} (h : Ren.cut ρ N i = some e) : ρ i = some e ∧ i < N := by
  unfold Ren.cut at h
  split at h
  · rename_i hi; exact ⟨h, hi⟩
  · cases h
theorem Ren.cut_of {ρ : Ren} {N i : Nat} (h : i < N) : Ren.cut ρ N i = ρ i := if_pos h

mutual
theorem VRel.cut {ρ : Ren} {N : Nat} : ∀ (x : AV) (v : Value), AV.under N x = true → VRel ρ x v → VRel (ρ.cut N) x v
  | x, v, hb, hr => by
    cases x with
    | ptr a =>
      cases v with
      | pointer b =>
        cases a with
        | none => cases b <;> simp_all [VRel]
        | some a => cases b with
          | none => simp [VRel] at hr
          | some b =>
            obtain ⟨i, o⟩ := a
            simp only [VRel] at *
            obtain ⟨e, he, hb'⟩ := hr
            exact ⟨e, by rw [Ren.cut_of (by simpa [AV.under] using hb)]; exact he, hb'⟩
      | _ => cases a <;> simp_all [VRel]
    | slice a l c ex =>
      cases v with
      | slice b l' c' =>
        cases a with
        | none => cases b with
          | none => simpa [VRel] using hr
          | some b => simp [VRel] at hr
        | some a => cases b with
          | none => simp [VRel] at hr
          | some b =>
            obtain ⟨i, o⟩ := a
            simp only [VRel] at *
            obtain ⟨hl, hlc, e, he, hb'⟩ := hr
            exact ⟨hl, hlc, e, by rw [Ren.cut_of (by simpa [AV.under] using hb)]; exact he, hb'⟩
      | _ => cases a <;> simp_all [VRel]
    | map a =>
      cases v with
      | map b =>
        cases a with
        | none => cases b <;> simp_all [VRel]
        | some i => cases b with
          | none => simp [VRel] at hr
          | some b =>
            simp only [VRel] at *
            obtain ⟨e, he, hb'⟩ := hr
            exact ⟨e, by rw [Ren.cut_of (by simpa [AV.under] using hb)]; exact he, hb'⟩
      | _ => cases a <;> simp_all [VRel]
    | func f a b =>
      cases v with
      | func fn a' b' =>
        simp only [AV.under, Bool.and_eq_true] at hb
        simp only [VRel] at *
        exact ⟨hr.1, VRels.cut _ _ hb.1 hr.2.1, VRels.cut _ _ hb.2 hr.2.2⟩
      | _ => simp_all [VRel]
    | iface t a =>
      cases v with
      | iface t' a' =>
        simp only [AV.under] at hb
        simp only [VRel] at *
        exact ⟨hr.1, VRel.cut _ _ hb hr.2⟩
      | _ => simp_all [VRel]
    | agg xs =>
      cases v with
      | agg ys =>
        simp only [AV.under] at hb
        simp only [VRel] at *; exact VRels.cut _ _ hb hr
      | _ => simp_all [VRel]
    | tuple xs =>
      cases v with
      | tuple ys =>
        simp only [AV.under] at hb
        simp only [VRel] at *; exact VRels.cut _ _ hb hr
      | _ => simp_all [VRel]
    | gptr g => cases v with
      | pointer b => cases b <;> exact hr
      | _ => exact hr
    | mt => cases v with
      | slice b l c => cases b <;> exact hr
      | _ => exact hr
    | top => simp [VRel]
    | sym i n =>
      cases v with
      | int k m =>
        simp only [VRel] at *
        obtain ⟨hk, e, he, hb'⟩ := hr
        exact ⟨hk, e, by rw [Ren.cut_of (by simpa [AV.under] using hb)]; exact he, hb'⟩
      | _ => exact hr
    | _ => cases v <;> exact hr
theorem VRels.cut {ρ : Ren} {N : Nat} : ∀ (xs : List AV) (vs : List Value), AV.unders N xs = true → VRels ρ xs vs → VRels (ρ.cut N) xs vs
  | [], [], _, _ => trivial
  | [], _ :: _, _, hr => by simp [VRels] at hr
  | _ :: _, [], _, hr => by simp [VRels] at hr
  | x :: xs, v :: vs, hb, hr => by
    simp only [AV.unders, Bool.and_eq_true] at hb
    simp only [VRels] at *
    exact ⟨VRel.cut _ _ hb.1 hr.1, VRels.cut _ _ hb.2 hr.2⟩
end

theorem sameEs_eq : ∀ (a b : List (AV × AV)), sameEs a b = true → a = b
  | [], b, h => by cases b <;> simp_all [sameEs]
  | (x, y) :: a, b, h => by
    cases b with
    | nil => simp [sameEs] at h
    | cons p b =>
      obtain ⟨c, d⟩ := p
      simp only [sameEs, Bool.and_eq_true] at h
      rw [AV.same_eq _ _ h.1.1, AV.same_eq _ _ h.1.2, sameEs_eq a b h.2]

theorem ERel.cut {ρ : Ren} {N : Nat} : ∀ (es : List (AV × AV)) (es' : List MapEntry), belowEs N es = true → ERel ρ es es' → ERel (ρ.cut N) es es'
  | [], [], _, _ => trivial
  | [], _ :: _, _, hr => by simp [ERel] at hr
  | _ :: _, [], _, hr => by simp [ERel] at hr
  | (k, v) :: es, e :: es', hb, hr => by
    simp only [belowEs, Bool.and_eq_true] at hb
    simp only [ERel] at *
    exact ⟨hr.1, VRel.cut _ _ hb.1.1 hr.2.1, VRel.cut _ _ hb.1.2 hr.2.2.1, ERel.cut es es' hb.2 hr.2.2.2⟩

theorem AV.unders_get {N : Nat} : ∀ (l : List AV) (k : Nat) (x : AV), AV.unders N l = true → l[k]? = some x → AV.under N x = true
  | [], k, x, _, h => by simp at h
  | y :: l, 0, x, hb, h => by
    simp only [AV.unders, Bool.and_eq_true] at hb
    simp only [List.getElem?_cons_zero, Option.some.injEq] at h
    subst h; exact hb.1
  | y :: l, k + 1, x, hb, h => by
    simp only [AV.unders, Bool.and_eq_true] at hb
    exact AV.unders_get l k x hb.2 (by simpa using h)

theorem Lay.orel {ρ : Ren} {N : Nat} {e : Ent} {y : Lay} {o : AObj} {ob : Option Obj} (hh : y.holds N o = true) (h : ORel P ρ e o ob) : ORel P (ρ.cut N) e y.obj ob := by
  cases y with
  | cells t g l =>
    cases o with
    | cells b =>
      simp only [Lay.holds, Bool.and_eq_true, beq_iff_eq] at hh
      obtain ⟨⟨⟨⟨h1, h2⟩, h3⟩, h4⟩, h5⟩ := hh
      have h1 := Nat.eq_of_beq_eq_true h1
      have h3 := Nat.eq_of_beq_eq_true h3
      rw [FE.len_eq] at h3
      rw [FE.bLoad_eq] at h4
      cases hl : b.load 0 b.n with
      | none => rw [hl] at h4; simp at h4
      | some l' =>
        rw [hl] at h4
        have := AV.sames_eq _ _ h4
        subst this
        cases ob with
        | none => simp [ORel] at h
        | some ob =>
          cases ob with
          | cells cs T fr =>
            simp only [ORel, Lay.obj] at *
            obtain ⟨g1, g2, g3, g4, g5, g6⟩ := h
            obtain ⟨_, hg⟩ := Blk.load_spec b _ _ _ hl
            refine ⟨by rw [g1, h1]; rfl, g2, by show l'.length ≤ _; omega, g4, fun hgt => ?_, fun k hk => ?_⟩
            · have : b.g = true := by rw [h2]; exact hgt
              have := g5 this
              rw [h1] at this; exact this
            · have hk : k < l'.length := hk
              obtain ⟨x, v, x1, x2, x3⟩ := g6 k (by omega)
              have hx := hg k (by omega)
              rw [Nat.zero_add, x1] at hx
              refine ⟨x, v, by rw [Blk.get_ofList]; exact hx.symm, x2, VRel.cut _ _ (AV.unders_get _ _ _ h5 hx.symm) x3⟩
          | _ => simp [ORel] at h
    | _ => simp [Lay.holds] at hh
  | map es =>
    cases o with
    | map es' =>
      simp only [Lay.holds, Bool.and_eq_true] at hh
      have := sameEs_eq _ _ hh.1
      subst this
      cases ob with
      | none => simp [ORel] at h
      | some ob =>
        cases ob with
        | map es' c => simp only [ORel, Lay.obj] at *; exact ERel.cut _ _ hh.2 h
        | _ => simp [ORel] at h
    | _ => simp [Lay.holds] at hh

theorem Lay.holds_live {N : Nat} {y : Lay} {o : AObj} (h : y.holds N o = true) : o.live := by
  cases y <;> cases o <;> simp_all [Lay.holds, AObj.live]

theorem mkHeap_get : ∀ (l : List (Nat × Lay)) (i : Nat) (o : AObj), (mkHeap l).get i = some o → ∃ y, (i, y) ∈ l ∧ o = y.obj
  | [], i, o, h => by simp [mkHeap, Tr.get_leaf] at h
  | (j, y) :: l, i, o, h => by
    simp only [mkHeap, FE.trPut_eq, Tr.get_put] at h
    split at h
    · rename_i e; subst e
      simp only [Option.some.injEq] at h
      exact ⟨y, by simp, h.symm⟩
    · obtain ⟨y', h1, h2⟩ := mkHeap_get l i o h
      exact ⟨y', by simp [h1], h2⟩

theorem heapHolds_mem {N : Nat} {m : Tr AObj} : ∀ (l : List (Nat × Lay)), heapHolds N m l = true → ∀ i y, (i, y) ∈ l → i < N ∧ ∃ o, m.get i = some o ∧ y.holds N o = true
  | [], _, i, y, h => by simp at h
  | (j, z) :: l, hh, i, y, h => by
    simp only [heapHolds, Bool.and_eq_true, FE.trGet_eq] at hh
    rcases List.mem_cons.1 h with h | h
    · simp only [Prod.mk.injEq] at h
      obtain ⟨rfl, rfl⟩ := h
      refine ⟨by simpa using hh.1.1, ?_⟩
      cases hg : m.get i with
      | none => rw [hg] at hh; simp at hh
      | some o => rw [hg] at hh; exact ⟨o, rfl, hh.1.2⟩
    · exact heapHolds_mem l hh.2 i y h

theorem mkTop_get : ∀ (n t : Nat), (mkTop n).get t = if t < n then some .top else none
  | 0, t => by simp [mkTop, Tr.get_leaf]
  | n + 1, t => by
    simp only [mkTop, FE.trPut_eq, Tr.get_put, mkTop_get n t]
    by_cases h : t = n
    · rw [if_pos h, if_pos (by omega)]
    · rw [if_neg h]
      by_cases h2 : t < n
      · rw [if_pos h2, if_pos (by omega)]
      · rw [if_neg h2, if_neg (by omega)]

theorem mkTmps_get {n : Nat} : ∀ (l : List (Nat × AV)) (t : Nat), (∃ v, (t, v) ∈ l ∧ (mkTmps n l).get t = some v) ∨ (mkTmps n l).get t = (if t < n then some .top else none)
  | [], t => .inr (mkTop_get n t)
  | (u, v) :: l, t => by
    simp only [mkTmps, FE.trPut_eq, Tr.get_put]
    by_cases h : t = u
    · subst h; exact .inl ⟨v, by simp, by simp⟩
    · rw [if_neg h]
      rcases mkTmps_get l t with ⟨v', h1, h2⟩ | h1
      · exact .inl ⟨v', by simp [h1], h2⟩
      · exact .inr h1

theorem tmpsHold_mem {N : Nat} {T : Tr AV} : ∀ (l : List (Nat × AV)), tmpsHold N T l = true → ∀ t v, (t, v) ∈ l → T.get t = some v ∧ AV.under N v = true
  | [], _, t, v, h => by simp at h
  | (u, x) :: l, hh, t, v, h => by
    simp only [tmpsHold, Bool.and_eq_true, FE.trGet_eq] at hh
    rcases List.mem_cons.1 h with h | h
    · simp only [Prod.mk.injEq] at h
      obtain ⟨rfl, rfl⟩ := h
      cases hg : T.get t with
      | none => rw [hg] at hh; simp at hh
      | some o =>
        rw [hg] at hh
        simp only [Bool.and_eq_true] at hh
        exact ⟨by rw [AV.same_eq _ _ hh.1.1], hh.1.2⟩
    · exact tmpsHold_mem l hh.2 t v h

/-- WHAT IS TOLD OF A STATE HOLDS WHERE THE STATE HOLDS. -/
theorem Told.weaken [Base] {d : Told} {s : St} (hd : d.holds s = true) {ρ0 ρ : Ren} {H0 : Heap} {w0 w : World} {a : Act} (hr : Rel P ρ s.H w) (hf : FRel P ρ s a) (hs : Fr ρ0 H0 w0 ρ s.H w) :
    ∃ ρ', Rel P ρ' d.st.H w ∧ FRel P ρ' d.st a ∧ Fr ρ0 H0 w0 ρ' d.st.H w ∧ ∀ i e, i < d.next → ρ i = some e → ρ' i = some e := by
  simp only [Told.holds, Bool.and_eq_true] at hd
  obtain ⟨⟨⟨h1, h2⟩, h3⟩, h4⟩ := hd
  have h1 := Nat.eq_of_beq_eq_true h1
  have key : ∀ i o, d.st.H.get i = some o → ∃ (y : Lay) (o' : AObj), o = y.obj ∧ i < d.next ∧ s.H.get i = some o' ∧ y.holds d.next o' = true := by
    intro i o h
    obtain ⟨y, hy, rfl⟩ := mkHeap_get d.O i o h
    obtain ⟨h7, o', h5, h6⟩ := heapHolds_mem d.O h4 i y hy
    exact ⟨y, o', rfl, h7, h5, h6⟩
  refine ⟨ρ.cut d.next, ⟨?_, ?_, ?_, ?_, fun b o hk => ⟨(hr.kept b o hk).1, fun i q e hi _ he => ?_⟩⟩, ⟨?_, ?_, ?_⟩, ⟨hs.size, hs.frame, ?_, hs.os, hs.tape, hs.output⟩, fun i e hi he => by rw [Ren.cut_of hi]; exact he⟩
  · intro i o hi hl
    obtain ⟨y, o', rfl, hlt, h5, h6⟩ := key i o hi
    obtain ⟨e, he, ho⟩ := hr.obj i o' h5 (Lay.holds_live h6)
    exact ⟨e, by rw [Ren.cut_of hlt]; exact he, Lay.orel h6 ho⟩
  · intro i j o o' e e' hi hl hj hl' he he' hb
    obtain ⟨y, o1, rfl, _, h5, h6⟩ := key i o hi
    obtain ⟨y', o1', rfl, _, h5', h6'⟩ := key j o' hj
    exact hr.inj i j o1 o1' e e' h5 (Lay.holds_live h6) h5' (Lay.holds_live h6') (Ren.cut_some he).1 (Ren.cut_some he').1 hb
  · intro i e he; exact hr.rng i e (Ren.cut_some he).1
  · intro i e he; exact (Ren.cut_some he).2
  · obtain ⟨y, o', rfl, _, h5, h6⟩ := key i q hi
    exact (hr.kept b o hk).2 i o' e h5 (Lay.holds_live h6) (Ren.cut_some he).1
  · intro t
    rcases mkTmps_get (n := d.n) d.T t with ⟨v, hv, hg⟩ | hg
    · obtain ⟨h5, h6⟩ := tmpsHold_mem d.T h3 t v hv
      have e1 : d.st.tmp t = v := by show ((mkTmps d.n d.T).get t).getD .undef = v; rw [hg]; rfl
      have e2 : s.tmp t = v := by unfold St.tmp; rw [h5]; rfl
      rw [e1]
      have := hf.tmps t
      rw [e2] at this
      exact VRel.cut _ _ h6 this
    · have e1 : d.st.tmp t = ((if t < d.n then some AV.top else none).getD .undef) := by show ((mkTmps d.n d.T).get t).getD .undef = _; rw [hg]
      rw [e1]
      by_cases hlt : t < d.n
      · rw [if_pos hlt]; simp [VRel]
      · rw [if_neg hlt]
        have hz : a.tmps.getD t undef = undef := by
          have := hf.n
          rw [Array.getD_eq_getD_getElem?, Array.getElem?_eq_none (by omega)]; rfl
        rw [hz]; exact undef_rel
  · show d.n = _; rw [← h1]; exact hf.n
  · have hds : s.ds = [] := by simpa using h2
    have := hf.ds
    rw [hds] at this
    cases hx : a.defers with
    | nil => simp [Told.st, DefsOk]
    | cons _ _ => rw [hx] at this; simp [DefsOk] at this
  · intro i o e hi hl he hb
    obtain ⟨y, o', rfl, _, h5, h6⟩ := key i o hi
    exact hs.live i o' e h5 (Lay.holds_live h6) (Ren.cut_some he).1 hb

/-! ### pieces of code -/

/-- the names of K stay below N -/
def Ren.under (K : Ren) (N : Nat) : Prop := ∀ i e, K i = some e → i < N
variable {K : Ren}

/-- Where a piece ends. -/
def Ends [Base] (P : Program) (K : Ren) (ρ : Ren) (H : Heap) (w : World) (x : AExit) (s' : St) (e : Exit) (a' : Act) (w' : World) : Prop :=
  e = x.toExit ∧ ∃ ρ', Rel P ρ' s'.H w' ∧ FRel P ρ' s' a' ∧ Fr ρ H w ρ' s'.H w' ∧ K.le ρ'

/-- FROM ANY WORLD THAT IS LIKE s THE CODE LEADS TO ONE LIKE s'. -/
def J [Base] (P : Program) (K : Ren) (c : Code) (s : St) (x : AExit) (s' : St) : Prop :=
  ∀ ρ a w, K.le ρ → Rel P ρ s.H w → FRel P ρ s a → c.wp P (Ends P K ρ s.H w x s') a w

/-- The same of a loop that has begun. -/
def JL [Base] (P : Program) (K : Ren) (b : Code) (s : St) (x : AExit) (s' : St) : Prop :=
  ∀ ρ a w, K.le ρ → Rel P ρ s.H w → FRel P ρ s a → LoopWp P b (Ends P K ρ s.H w x s') a w

theorem Ends.trans [Base] {ρ ρ' : Ren} {H H' : Heap} {w w' : World} {x : AExit} {s' : St} (h : Fr ρ H w ρ' H' w') {e : Exit} {a' : Act} {w'' : World} (k : Ends P K ρ' H' w' x s' e a' w'') : Ends P K ρ H w x s' e a' w'' := by
  obtain ⟨rfl, ρ2, h1, h2, h3, h4⟩ := k
  exact ⟨rfl, ρ2, h1, h2, h.trans h3, h4⟩

theorem J.seq [Base] {a b : Code} {s s1 s' : St} {x : AExit} (h : J P K a s .normal s1) (k : J P K b s1 x s') : J P K (.seq a b) s x s' := by
  intro ρ act w hk hr hf
  refine wp_seq (wp_mono (h ρ act w hk hr hf) ?_)
  rintro e a' w' ⟨rfl, ρ', hr', hf', hst, hk'⟩
  simp only [AExit.toExit, Exit.then]
  exact wp_mono (k ρ' a' w' hk' hr' hf') (fun e a w k => Ends.trans hst k)

theorem J.seq_out [Base] {a b : Code} {s s' : St} {x : AExit} (h : J P K a s x s') (hx : x ≠ .normal) : J P K (.seq a b) s x s' := by
  intro ρ act w hk hr hf
  refine wp_seq (wp_mono (h ρ act w hk hr hf) ?_)
  rintro e a' w' ⟨rfl, hz⟩
  cases x with
  | normal => exact absurd rfl hx
  | exit id => exact ⟨rfl, hz⟩
  | ret => exact ⟨rfl, hz⟩

/-- the exit of a block -/
def AExit.ofBlock (id : Nat) : AExit → AExit
  | .exit id' => if id' = id then .normal else .exit id'
  | x => x

theorem J.block [Base] {id : Nat} {c : Code} {s s' : St} {x : AExit} (h : J P K c s x s') : J P K (.block id c) s (x.ofBlock id) s' := by
  intro ρ a w hk hr hf
  refine wp_block (wp_mono (h ρ a w hk hr hf) ?_)
  rintro e a' w' ⟨rfl, hz⟩
  cases x with
  | normal => exact ⟨rfl, hz⟩
  | exit id' =>
    simp only [AExit.toExit, Exit.inBlock, AExit.ofBlock]
    split
    · exact ⟨rfl, hz⟩
    · exact ⟨rfl, hz⟩
  | ret => exact ⟨rfl, hz⟩

theorem J.scope [Base] {c : Code} {s s' : St} {x : AExit} (h : J P K c s x s') : J P K (.scope c) s x s' := by
  intro ρ a w hk hr hf
  refine wp_scope_straight (wp_mono (h ρ a w hk hr hf) ?_)
  rintro e a' w' ⟨rfl, hz⟩
  cases x <;> exact ⟨rfl, hz⟩

theorem J.cond [Base] {o : Operand} {c d : Code} {s s' : St} {x : AExit} {b : Bool} (hv : s.eval o = some (.bool b)) (h : J P K (if b then c else d) s x s') : J P K (.cond o c d) s x s' := by
  intro ρ a w hk hr hf
  exact wp_cond (bool_rel (hf.sees [o] o (by simp) _ hv)) (h ρ a w hk hr hf)

theorem J.loop [Base] {b : Code} {s s' : St} {x : AExit} (h : JL P K b s x s') : J P K (.loop b) s x s' := fun ρ a w hk hr hf => (h ρ a w hk hr hf).start

theorem JL.round [Base] {b : Code} {s s1 s' : St} {x : AExit} (h : J P K b s .normal s1) (k : JL P K b s1 x s') : JL P K b s x s' := by
  intro ρ a w hk hr hf
  refine LoopWp.round (wp_mono (h ρ a w hk hr hf) ?_)
  rintro e a' w' ⟨rfl, ρ', hr', hf', hst, hk'⟩
  simp only [AExit.toExit, Exit.then]
  exact (k ρ' a' w' hk' hr' hf').mono (fun e a w k => Ends.trans hst k)

theorem JL.out [Base] {b : Code} {s s' : St} {x : AExit} (h : J P K b s x s') (hx : x ≠ .normal) : JL P K b s x s' := by
  intro ρ a w hk hr hf
  refine LoopWp.round (wp_mono (h ρ a w hk hr hf) ?_)
  rintro e a' w' ⟨rfl, hz⟩
  cases x with
  | normal => exact absurd rfl hx
  | exit id => exact ⟨rfl, hz⟩
  | ret => exact ⟨rfl, hz⟩

theorem J.weaken [Base] {c : Code} {s s' : St} {x : AExit} {d : Told} (h : J P K c s x s') (hK : K.under d.next) (hd : d.holds s' = true) : J P K c s x d.st := by
  intro ρ a w hk hr hf
  refine wp_mono (h ρ a w hk hr hf) ?_
  rintro e a' w' ⟨rfl, ρ', hr', hf', hst, hk'⟩
  obtain ⟨ρ2, g1, g2, g3, g4⟩ := Told.weaken hd hr' hf' hst
  exact ⟨rfl, ρ2, g1, g2, g3, fun i e he => g4 i e (hK i e he) (hk' i e he)⟩

/-- what starts like s' may start like what is told of it -/
theorem J.from [Base] {c : Code} {s s' : St} {x : AExit} {d : Told} (hK : K.under d.next) (hd : d.holds s = true) (h : J P K c d.st x s') : J P K c s x s' := by
  intro ρ a w hk hr hf
  obtain ⟨ρ', h1, h2, h3, h4⟩ := Told.weaken (P := P) hd hr hf (Fr.refl ρ s.H w)
  exact wp_mono (h ρ' a w (fun i e he => h4 i e (hK i e he) (hk i e he)) h1 h2) (fun e a w k => Ends.trans h3 k)

section
variable {D : Array Oper → Bool} {X : Spec}

/-- a piece that the evaluator runs -/
theorem J.run [Base] (hX : SpecOk P X) (hP : ProgOk P (drawOk P)) (hm : P.follows .mixedOrders = true) (n : Nat) {c : Code} (hc : Draws (drawOk P) c = true) {s s' : St} {x : AExit}
    (h : execCode P (callN P X n false) (loopN P X n) c s = some (x, s')) : J P K c s x s' := by
  intro ρ a w hk hr hf
  have hS := callN_sound hX hP (fun _ hC => drawOk_sound hm hC) n
  refine wp_mono (execCode_wp hS.1 hS.2.2 (drawOk_sound hm hS.1) c s x s' ρ a w hc h hr hf) ?_
  rintro e a' w' ⟨rfl, ρ', h1, h2, h3⟩
  exact ⟨rfl, ρ', h1, h2, h3.fr, Ren.le_trans hk h3.ext⟩

/-- what the kernel is asked of a piece -/
noncomputable def runsTo (P : Program) (X : Spec) (n : Nat) (c : Code) (s : St) (x : AExit) (d : Told) : Bool :=
  match FE.code P (FE.both P X n).call (FE.both P X n).loop c s with
  | some (x', s') => decide (x' = x) && d.holds s'
  | none => false

theorem J.of_runs [Base] (hX : SpecOk P X) (hP : ProgOk P (drawOk P)) (hm : P.follows .mixedOrders = true) (n : Nat) {c : Code} (hc : Draws (drawOk P) c = true) {s : St} {x : AExit} {d : Told} (hK : K.under d.next)
    (h : runsTo P X n c s x d = true) : J P K c s x d.st := by
  unfold runsTo at h
  rw [FE.code_eq, (FE.both_eq P X n).1, (FE.both_eq P X n).2.1] at h
  split at h
  · rename_i x' s' hr
    simp only [Bool.and_eq_true, decide_eq_true_eq] at h
    obtain ⟨rfl, hd⟩ := h
    exact (J.run hX hP hm n hc hr).weaken hK hd
  · cases h
end

/-! ### rows of code -/

def flat : Code → List Code
  | .seq a b => flat a ++ flat b
  | c => [c]

def wpL (P : Program) : List Code → (Exit → Act → World → Prop) → Act → World → Prop
  | [], Q, a, w => Q .normal a w
  | c :: l, Q, a, w => c.wp P (Exit.then (wpL P l Q) Q) a w

theorem wpL_mono {Q Q' : Exit → Act → World → Prop} (hq : ∀ e a w, Q e a w → Q' e a w) : ∀ (l : List Code) (a : Act) (w : World), wpL P l Q a w → wpL P l Q' a w
  | [], a, w, h => hq _ _ _ h
  | c :: l, a, w, h => by
    refine wp_mono h fun e a w k => ?_
    cases e with
    | normal => exact wpL_mono hq l a w k
    | _ => exact hq _ _ _ k

theorem wpL_append {Q : Exit → Act → World → Prop} (l2 : List Code) : ∀ (l1 : List Code) (a : Act) (w : World), wpL P l1 (Exit.then (wpL P l2 Q) Q) a w → wpL P (l1 ++ l2) Q a w
  | [], a, w, h => h
  | c :: l1, a, w, h => by
    refine wp_mono h fun e a w k => ?_
    cases e with
    | normal => exact wpL_append l2 l1 a w k
    | _ => exact k

theorem wp_of_flat {Q : Exit → Act → World → Prop} : ∀ (c : Code) (l : List Code) (a : Act) (w : World), wpL P (flat c ++ l) Q a w → c.wp P (Exit.then (wpL P l Q) Q) a w := by
  intro c
  induction c with
  | seq x y ihx ihy =>
    intro l a w h
    simp only [flat, List.append_assoc] at h
    refine wp_seq (wp_mono (ihx _ a w h) fun e a w k => ?_)
    cases e with
    | normal => exact ihy l a w k
    | _ => exact k
  | _ => intro l a w h; exact h

theorem wp_flat {Q : Exit → Act → World → Prop} {c : Code} {a : Act} {w : World} (h : wpL P (flat c) Q a w) : c.wp P Q a w := by
  refine wp_mono (wp_of_flat c [] a w (by simpa using h)) fun e a w k => ?_
  cases e <;> exact k

def JS [Base] (P : Program) (K : Ren) (l : List Code) (s : St) (x : AExit) (s' : St) : Prop :=
  ∀ ρ a w, K.le ρ → Rel P ρ s.H w → FRel P ρ s a → wpL P l (Ends P K ρ s.H w x s') a w

theorem J.flat [Base] {c : Code} {s s' : St} {x : AExit} (h : JS P K (flat c) s x s') : J P K c s x s' := fun ρ a w hk hr hf => wp_flat (h ρ a w hk hr hf)

theorem JS.one [Base] {c : Code} {s s' : St} {x : AExit} (h : J P K c s x s') : JS P K [c] s x s' := fun ρ a w hk hr hf => wp_mono (h ρ a w hk hr hf) fun e a w k => by cases e <;> exact k

theorem JS.nil [Base] (s : St) : JS P K [] s .normal s := fun ρ _ _ hk hr hf => ⟨rfl, ρ, hr, hf, Fr.refl .., hk⟩

theorem JS.append [Base] {l1 l2 : List Code} {s s1 s' : St} {x : AExit} (h : JS P K l1 s .normal s1) (k : JS P K l2 s1 x s') : JS P K (l1 ++ l2) s x s' := by
  intro ρ a w hk hr hf
  refine wpL_append l2 l1 a w (wpL_mono ?_ l1 a w (h ρ a w hk hr hf))
  rintro e a' w' ⟨rfl, ρ', hr', hf', hst, hk'⟩
  simp only [AExit.toExit, Exit.then]
  exact wpL_mono (fun e a w k => Ends.trans hst k) l2 a' w' (k ρ' a' w' hk' hr' hf')

theorem JS.append_out [Base] {l1 l2 : List Code} {s s' : St} {x : AExit} (h : JS P K l1 s x s') (hx : x ≠ .normal) : JS P K (l1 ++ l2) s x s' := by
  intro ρ a w hk hr hf
  refine wpL_append l2 l1 a w (wpL_mono ?_ l1 a w (h ρ a w hk hr hf))
  rintro e a' w' ⟨rfl, hz⟩
  cases x with
  | normal => exact absurd rfl hx
  | exit id => exact ⟨rfl, hz⟩
  | ret => exact ⟨rfl, hz⟩

theorem JS.weaken [Base] {l : List Code} {s s' : St} {x : AExit} {d : Told} (h : JS P K l s x s') (hK : K.under d.next) (hd : d.holds s' = true) : JS P K l s x d.st := by
  intro ρ a w hk hr hf
  refine wpL_mono ?_ l a w (h ρ a w hk hr hf)
  rintro e a' w' ⟨rfl, ρ', hr', hf', hst, hk'⟩
  obtain ⟨ρ2, g1, g2, g3, g4⟩ := Told.weaken hd hr' hf' hst
  exact ⟨rfl, ρ2, g1, g2, g3, fun i e he => g4 i e (hK i e he) (hk' i e he)⟩

noncomputable def codeL (P : Program) (callF : CallF) (loopF : Code → St → FE.R) (l : List Code) : St → FE.R :=
  @List.rec Code (fun _ => St → FE.R) (fun s => some (.normal, s)) (fun c _ ih s => FE.obind (FE.code P callF loopF c s) (FE.seqK ih)) l

theorem JS.run [Base] {X : Spec} (hX : SpecOk P X) (hP : ProgOk P (drawOk P)) (hm : P.follows .mixedOrders = true) (n : Nat) : ∀ (l : List Code), l.all (Draws (drawOk P)) = true → ∀ (s s' : St) (x : AExit),
    codeL P (FE.both P X n).call (FE.both P X n).loop l s = some (x, s') → JS P K l s x s'
  | [], _, s, s', x, h => by
    have h : some (AExit.normal, s) = some (x, s') := h
    simp only [Option.some.injEq, Prod.mk.injEq] at h
    obtain ⟨rfl, rfl⟩ := h
    exact JS.nil s
  | c :: l, hd, s, s', x, h => by
    simp only [List.all_cons, Bool.and_eq_true] at hd
    have h : FE.obind (FE.code P (FE.both P X n).call (FE.both P X n).loop c s) (FE.seqK (codeL P (FE.both P X n).call (FE.both P X n).loop l)) = some (x, s') := h
    rw [FE.obind_eq, Option.bind_eq_some_iff] at h
    obtain ⟨⟨x1, s1⟩, h1, h2⟩ := h
    rw [FE.code_eq, (FE.both_eq P X n).1, (FE.both_eq P X n).2.1] at h1
    have hj : JS P K [c] s x1 s1 := JS.one (J.run hX hP hm n hd.1 h1)
    cases x1 with
    | normal => exact JS.append hj (JS.run hX hP hm n l hd.2 s1 s' x h2)
    | exit i =>
      have h2 : some (AExit.exit i, s1) = some (x, s') := h2
      simp only [Option.some.injEq, Prod.mk.injEq] at h2
      obtain ⟨rfl, rfl⟩ := h2
      exact JS.append_out hj (by simp)
    | ret =>
      have h2 : some (AExit.ret, s1) = some (x, s') := h2
      simp only [Option.some.injEq, Prod.mk.injEq] at h2
      obtain ⟨rfl, rfl⟩ := h2
      exact JS.append_out hj (by simp)

/-- what the kernel is asked of a row -/
noncomputable def runsToL (P : Program) (X : Spec) (n : Nat) (l : List Code) (s : St) (x : AExit) (d : Told) : Bool :=
  match codeL P (FE.both P X n).call (FE.both P X n).loop l s with
  | some (x', s') => decide (x' = x) && d.holds s'
  | none => false

theorem JS.of_runs [Base] {X : Spec} (hX : SpecOk P X) (hP : ProgOk P (drawOk P)) (hm : P.follows .mixedOrders = true) (n : Nat) {l : List Code} (hc : l.all (Draws (drawOk P)) = true) {s : St} {x : AExit} {d : Told} (hK : K.under d.next)
    (h : runsToL P X n l s x d = true) : JS P K l s x d.st := by
  unfold runsToL at h
  split at h
  · rename_i x' s' hr
    simp only [Bool.and_eq_true, decide_eq_true_eq] at h
    obtain ⟨rfl, hd⟩ := h
    exact (JS.run hX hP hm n l hc s s' x' hr).weaken hK hd
  · cases h
end
end AE
