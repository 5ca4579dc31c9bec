/- A call that was run once, at objects of its own, told for every like call. Conditions: none. -/
import Derived.Test.YtandggoanbdjkaaGreatDoorWAEK
namespace AE
open Go Go.RowKit

mutual
def AV.ren (φ : Nat → Nat) : AV → AV
  | .ptr (some (i, o)) => .ptr (some (φ i, o))
  | .slice (some (i, o)) l c ex => .slice (some (φ i, o)) l c ex
  | .map (some i) => .map (some (φ i))
  | .sym i n => .sym (φ i) n
  | .func f x y => .func f (AV.rens φ x) (AV.rens φ y)
  | .iface t v => .iface t (AV.ren φ v)
  | .agg xs => .agg (AV.rens φ xs)
  | .tuple xs => .tuple (AV.rens φ xs)
  | v => v
def AV.rens (φ : Nat → Nat) : List AV → List AV
  | [] => []
  | x :: xs => AV.ren φ x :: AV.rens φ xs
end

def renEs (φ : Nat → Nat) : List (AV × AV) → List (AV × AV)
  | [] => []
  | (k, v) :: es => (AV.ren φ k, AV.ren φ v) :: renEs φ es

def Lay.ren (φ : Nat → Nat) : Lay → Lay
  | .cells t g l => .cells t g (AV.rens φ l)
  | .map es => .map (renEs φ es)

def Lay.under (N : Nat) : Lay → Bool
  | .cells _ _ l => AV.unders N l
  | .map es => belowEs N es

/-- does an object say just what is told? -/
noncomputable def Lay.eqv : Lay → AObj → Bool
  | .cells t g l, .cells b => Nat.beq b.t t && (b.g == g) && Nat.beq b.n (FE.len l) && (match FE.bLoad b b.n 0 with | some l' => AV.sames l' l | none => false)
  | .map es, .map es' => sameEs es' es
  | _, _ => false

mutual
/-- which number stands for which -/
def AV.pairs : AV → AV → List (Nat × Nat)
  | .ptr (some (c, _)), .ptr (some (i, _)) => [(c, i)]
  | .slice (some (c, _)) _ _ _, .slice (some (i, _)) _ _ _ => [(c, i)]
  | .map (some c), .map (some i) => [(c, i)]
  | .sym c _, .sym i _ => [(c, i)]
  | .func _ x y, .func _ x' y' => AV.pairsL x x' ++ AV.pairsL y y'
  | .iface _ v, .iface _ v' => AV.pairs v v'
  | .agg x, .agg y => AV.pairsL x y
  | .tuple x, .tuple y => AV.pairsL x y
  | _, _ => []
def AV.pairsL : List AV → List AV → List (Nat × Nat)
  | x :: xs, y :: ys => AV.pairs x y ++ AV.pairsL xs ys
  | _, _ => []
end

def pairsEs : List (AV × AV) → List (AV × AV) → List (Nat × Nat)
  | (_, v) :: x, (_, v') :: y => AV.pairs v v' ++ pairsEs x y
  | _, _ => []

def look : List (Nat × Nat) → Nat → Option Nat
  | [], _ => none
  | (c, i) :: l, k => if Nat.beq c k then some i else look l k

noncomputable def pairsO (H : Heap) : List (Nat × Lay) → List (Nat × Nat) → List (Nat × Nat)
  | [], ps => ps
  | (c, y) :: l, ps => pairsO H l (match look ps c with
    | some i => match FE.trGet H.m i, y with
      | some (.cells b), .cells _ _ xs => (match FE.bLoad b b.n 0 with | some ys => ps ++ AV.pairsL xs ys | none => ps)
      | some (.map es), .map es' => ps ++ pairsEs es' es
      | _, _ => ps
    | none => ps)

/-- A call that was run. -/
structure Canon where
  args : List AV
  m : Nat
  O : List (Nat × Lay)
  v : AV
  R : List (Nat × Lay)
  next : Nat

def underL (N : Nat) : List (Nat × Lay) → Bool
  | [] => true
  | (i, y) :: l => Nat.blt i N && y.under N && underL N l
def hasId : List (Nat × Lay) → Nat → Bool
  | [], _ => false
  | (i, _) :: l, k => Nat.beq i k || hasId l k
def hasIds (R : List (Nat × Lay)) : List (Nat × Lay) → Bool
  | [] => true
  | (i, _) :: l => hasId R i && hasIds R l
noncomputable def eqvL (m : Tr AObj) : List (Nat × Lay) → Bool
  | [] => true
  | (i, y) :: l => (match FE.trGet m i with | some o => y.eqv o | none => false) && eqvL m l
def distinct : List Nat → Bool
  | [] => true
  | x :: xs => !(xs.any (Nat.beq x)) && distinct xs

/-- the call, run by the kernel -/
noncomputable def Canon.ran (c : Canon) (call : List AV → Heap → Option (AV × Heap)) : Bool :=
  match call c.args ⟨mkHeap c.O, c.m⟩ with
  | some (v, H) => AV.same v c.v && eqvL H.m c.R && AV.unders c.m c.args && underL c.m c.O && underL c.next c.R && AV.under c.next c.v && hasIds c.R c.O && Nat.ble c.m c.next
  | none => false

def renId (σ : List Nat) (m base i : Nat) : Nat := if Nat.blt i m then σ.getD i 0 else base + (i - m)

def renL (φ : Nat → Nat) : List (Nat × Lay) → List (Nat × Lay)
  | [] => []
  | (i, y) :: l => (φ i, y.ren φ) :: renL φ l

noncomputable def putsL (t : Tr AObj) : List (Nat × Lay) → Tr AObj
  | [] => t
  | (i, y) :: l => FE.trPut (putsL t l) i y.obj

noncomputable def Canon.apply (c : Canon) (σ : List Nat) (args : List AV) (H : Heap) : Option (AV × Heap) :=
  if Nat.beq (FE.len σ) c.m && distinct σ && AV.sames args (AV.rens (renId σ c.m H.next) c.args) && eqvL H.m (renL (renId σ c.m H.next) c.O) then
    some (c.v.ren (renId σ c.m H.next), ⟨putsL H.m (renL (renId σ c.m H.next) c.R), H.next + (c.next - c.m)⟩)
  else none

def getAll (ps : List (Nat × Nat)) : Nat → Nat → List Nat
  | 0, _ => []
  | n + 1, k => (look ps k).getD 0 :: getAll ps n (k + 1)

noncomputable def Canon.spec (c : Canon) (args : List AV) (H : Heap) : Option (AV × Heap) :=
  c.apply (getAll (pairsO H c.O (AV.pairsL c.args args)) c.m 0) args H

/-! ### -/

mutual
theorem AV.ren_id : ∀ (x : AV), AV.ren (fun i => i) x = x
  | .ptr a => by rcases a with _ | ⟨i, o⟩ <;> rfl
  | .slice a l c e => by rcases a with _ | ⟨i, o⟩ <;> rfl
  | .map a => by rcases a with _ | i <;> rfl
  | .func f x y => by simp only [AV.ren, AV.rens_id x, AV.rens_id y]
  | .iface t v => by simp only [AV.ren, AV.ren_id v]
  | .agg xs => by simp only [AV.ren, AV.rens_id xs]
  | .tuple xs => by simp only [AV.ren, AV.rens_id xs]
  | .sym _ _ => rfl
  | .bool _ | .int _ _ | .str _ | .gptr _ | .mt | .nilFunc | .nilIface | .top => rfl
theorem AV.rens_id : ∀ (x : List AV), AV.rens (fun i => i) x = x
  | [] => rfl
  | x :: xs => by simp only [AV.rens, AV.ren_id x, AV.rens_id xs]
end

theorem renEs_id : ∀ (es : List (AV × AV)), renEs (fun i => i) es = es
  | [] => rfl
  | (k, v) :: es => by simp only [renEs, AV.ren_id, renEs_id es]
theorem Lay.ren_id (y : Lay) : y.ren (fun i => i) = y := by cases y <;> simp only [Lay.ren, AV.rens_id, renEs_id]

mutual
theorem VRel.tr {ρ ρ' : Ren} {f g : Nat → Nat} {N : Nat} (h : ∀ i e, i < N → ρ (f i) = some e → ρ' (g i) = some e) : ∀ (x : AV) (v : Value), AV.under N x = true → VRel ρ (AV.ren f x) v → VRel ρ' (AV.ren g x) v
  | x, v, hb, hr => by
    cases x with
    | ptr a =>
      rcases a with _ | ⟨i, o⟩
      · cases v with
        | pointer b => cases b <;> exact hr
        | _ => exact hr
      · cases v with
        | pointer b =>
          cases b with
          | none => exact hr
          | some b =>
            simp only [VRel, AV.ren] at *
            obtain ⟨e, he, hb'⟩ := hr
            exact ⟨e, h i e (by simpa [AV.under] using hb) he, hb'⟩
        | _ => exact hr
    | slice a l c ex =>
      rcases a with _ | ⟨i, o⟩
      · cases v with
        | slice b l' c' => cases b <;> exact hr
        | _ => exact hr
      · cases v with
        | slice b l' c' =>
          cases b with
          | none => exact hr
          | some b =>
            simp only [VRel, AV.ren] at *
            obtain ⟨hl, hlc, e, he, hb'⟩ := hr
            exact ⟨hl, hlc, e, h i e (by simpa [AV.under] using hb) he, hb'⟩
        | _ => exact hr
    | map a =>
      rcases a with _ | i
      · cases v with
        | map b => cases b <;> exact hr
        | _ => exact hr
      · cases v with
        | map b =>
          cases b with
          | none => exact hr
          | some b =>
            simp only [VRel, AV.ren] at *
            obtain ⟨e, he, hb'⟩ := hr
            exact ⟨e, h i e (by simpa [AV.under] using hb) he, hb'⟩
        | _ => exact hr
    | func k a b =>
      cases v with
      | func fn a' b' =>
        simp only [AV.under, Bool.and_eq_true] at hb
        simp only [VRel, AV.ren] at *
        exact ⟨hr.1, VRels.tr h _ _ hb.1 hr.2.1, VRels.tr h _ _ hb.2 hr.2.2⟩
      | _ => exact hr
    | iface t a =>
      cases v with
      | iface t' a' =>
        simp only [AV.under] at hb
        simp only [VRel, AV.ren] at *
        exact ⟨hr.1, VRel.tr h _ _ hb hr.2⟩
      | _ => exact hr
    | agg xs =>
      cases v with
      | agg ys =>
        simp only [AV.under] at hb
        simp only [VRel, AV.ren] at *; exact VRels.tr h _ _ hb hr
      | _ => exact hr
    | tuple xs =>
      cases v with
      | tuple ys =>
        simp only [AV.under] at hb
        simp only [VRel, AV.ren] at *; exact VRels.tr h _ _ hb hr
      | _ => exact hr
    | gptr g => cases v with
      | pointer b => cases b <;> exact hr
      | _ => exact hr
    | mt => cases v with
      | slice b l c => cases b <;> exact hr
      | _ => exact hr
    | top => simp [VRel, AV.ren]
    | sym i n =>
      cases v with
      | int k m =>
        simp only [VRel, AV.ren] at *
        obtain ⟨hk, e, he, hb'⟩ := hr
        exact ⟨hk, e, h i e (by simpa [AV.under] using hb) he, hb'⟩
      | _ => exact hr
    | _ => cases v <;> exact hr
theorem VRels.tr {ρ ρ' : Ren} {f g : Nat → Nat} {N : Nat} (h : ∀ i e, i < N → ρ (f i) = some e → ρ' (g i) = some e) : ∀ (xs : List AV) (vs : List Value), AV.unders N xs = true → VRels ρ (AV.rens f xs) vs → VRels ρ' (AV.rens g xs) vs
  | [], [], _, _ => trivial
  | [], _ :: _, _, hr => by simp [VRels, AV.rens] at hr
  | _ :: _, [], _, hr => by simp [VRels, AV.rens] at hr
  | x :: xs, v :: vs, hb, hr => by
    simp only [AV.unders, Bool.and_eq_true] at hb
    simp only [VRels, AV.rens] at *
    exact ⟨VRel.tr h _ _ hb.1 hr.1, VRels.tr h _ _ hb.2 hr.2⟩
end

theorem basicKey_ren {f g : Nat → Nat} (k : AV) (h : basicKey (AV.ren f k) = true) : basicKey (AV.ren g k) = true := by
  cases k with
  | ptr a => rcases a with _ | ⟨i, o⟩ <;> simp [AV.ren, basicKey] at h
  | slice a l c e => rcases a with _ | ⟨i, o⟩ <;> simp [AV.ren, basicKey] at h
  | map a => rcases a with _ | i <;> simp [AV.ren, basicKey] at h
  | _ => first | exact h | simp [AV.ren, basicKey] at h

theorem ERel.tr {ρ ρ' : Ren} {f g : Nat → Nat} {N : Nat} (h : ∀ i e, i < N → ρ (f i) = some e → ρ' (g i) = some e) : ∀ (es : List (AV × AV)) (es' : List MapEntry), belowEs N es = true → ERel ρ (renEs f es) es' → ERel ρ' (renEs g es) es'
  | [], [], _, _ => trivial
  | [], _ :: _, _, hr => by simp [ERel, renEs] at hr
  | _ :: _, [], _, hr => by simp [ERel, renEs] at hr
  | (k, v) :: es, e :: es', hb, hr => by
    simp only [belowEs, Bool.and_eq_true] at hb
    simp only [ERel, renEs] at *
    exact ⟨basicKey_ren k hr.1, VRel.tr h _ _ hb.1.1 hr.2.1, VRel.tr h _ _ hb.1.2 hr.2.2.1, ERel.tr h es es' hb.2 hr.2.2.2⟩

theorem AV.rens_get (f : Nat → Nat) : ∀ (l : List AV) (k : Nat), (AV.rens f l)[k]? = (l[k]?).map (AV.ren f)
  | [], k => by simp [AV.rens]
  | x :: l, 0 => by simp [AV.rens]
  | x :: l, k + 1 => by simp only [AV.rens, List.getElem?_cons_succ]; exact AV.rens_get f l k
theorem AV.rens_length (f : Nat → Nat) : ∀ (l : List AV), (AV.rens f l).length = l.length
  | [] => rfl
  | x :: l => by simp [AV.rens, AV.rens_length f l]

theorem ORel.tr {P : Program} {ρ ρ' : Ren} {f g : Nat → Nat} {N : Nat} (h : ∀ i e, i < N → ρ (f i) = some e → ρ' (g i) = some e) {y : Lay} {o : AObj} {e : Ent} {ob : Option Obj} (hy : y.under N = true) (hh : (y.ren f).eqv o = true)
    (ho : ORel P ρ e o ob) : ORel P ρ' e (y.ren g).obj ob := by
  cases y with
  | cells t gr l =>
    cases o with
    | cells b =>
      simp only [Lay.ren, Lay.eqv, Bool.and_eq_true, beq_iff_eq] at hh
      obtain ⟨⟨⟨h1, h2⟩, h3⟩, h4⟩ := hh
      have h1 := Nat.eq_of_beq_eq_true h1
      have h3 := Nat.eq_of_beq_eq_true h3
      rw [FE.len_eq, AV.rens_length] at h3
      rw [FE.bLoad_eq] at h4
      cases hl : b.load 0 b.n with
      | none => rw [hl] at h4; simp at h4
      | some l' =>
        rw [hl] at h4
        have := AV.sames_eq _ _ h4
        subst this
        cases ob with
        | none => simp [ORel] at ho
        | some ob =>
          cases ob with
          | cells cs T fr =>
            simp only [ORel, Lay.obj, Lay.ren] at *
            obtain ⟨g1, g2, g3, g4, g5, g6⟩ := ho
            obtain ⟨_, hg⟩ := Blk.load_spec b _ _ _ hl
            refine ⟨by rw [g1, h1]; rfl, g2, by show (AV.rens g l).length ≤ _; rw [AV.rens_length]; omega, g4, fun hgt => ?_, fun k hk => ?_⟩
            · have : b.g = true := by rw [h2]; exact hgt
              have := g5 this
              rw [h1] at this; exact this
            · have hk : k < (AV.rens g l).length := hk
              rw [AV.rens_length] at hk
              obtain ⟨x, v, x1, x2, x3⟩ := g6 k (by omega)
              have hx := hg k (by omega)
              rw [Nat.zero_add, x1, AV.rens_get, List.getElem?_eq_getElem hk] at hx
              simp only [Option.map_some, Option.some.injEq] at hx
              subst hx
              refine ⟨AV.ren g l[k], v, by rw [Blk.get_ofList, AV.rens_get, List.getElem?_eq_getElem hk]; rfl, x2, VRel.tr h _ _ (AV.unders_get _ k _ hy (by simp [hk])) x3⟩
          | _ => simp [ORel] at ho
    | _ => simp [Lay.eqv, Lay.ren] at hh
  | map es =>
    cases o with
    | map es' =>
      simp only [Lay.eqv, Lay.ren] at hh
      have := sameEs_eq _ _ hh
      subst this
      cases ob with
      | none => simp [ORel] at ho
      | some ob =>
        cases ob with
        | map es' c => simp only [ORel, Lay.obj, Lay.ren] at *; exact ERel.tr h _ _ hy ho
        | _ => simp [ORel] at ho
    | _ => simp [Lay.eqv, Lay.ren] at hh

theorem Lay.eqv_live {y : Lay} {o : AObj} (h : y.eqv o = true) : o.live := by
  cases y <;> cases o <;> simp_all [Lay.eqv, AObj.live]
theorem Lay.obj_live (y : Lay) : y.obj.live := by cases y <;> simp [Lay.obj, AObj.live]

theorem eqvL_mem {m : Tr AObj} : ∀ (l : List (Nat × Lay)), eqvL m l = true → ∀ i y, (i, y) ∈ l → ∃ o, m.get i = some o ∧ y.eqv o = true
  | [], _, i, y, h => by simp at h
  | (j, z) :: l, hh, i, y, h => by
    simp only [eqvL, Bool.and_eq_true, FE.trGet_eq] at hh
    rcases List.mem_cons.1 h with h | h
    · simp only [Prod.mk.injEq] at h
      obtain ⟨rfl, rfl⟩ := h
      cases hg : m.get i with
      | none => rw [hg] at hh; simp at hh
      | some o => rw [hg] at hh; exact ⟨o, rfl, hh.1⟩
    · exact eqvL_mem l hh.2 i y h

theorem underL_mem {N : Nat} : ∀ (l : List (Nat × Lay)), underL N l = true → ∀ i y, (i, y) ∈ l → i < N ∧ y.under N = true
  | [], _, i, y, h => by simp at h
  | (j, z) :: l, hh, i, y, h => by
    simp only [underL, Bool.and_eq_true] at hh
    rcases List.mem_cons.1 h with h | h
    · simp only [Prod.mk.injEq] at h
      obtain ⟨rfl, rfl⟩ := h
      exact ⟨by simpa using hh.1.1, hh.1.2⟩
    · exact underL_mem l hh.2 i y h

theorem hasId_mem : ∀ (l : List (Nat × Lay)) (k : Nat), hasId l k = true → ∃ y, (k, y) ∈ l
  | [], k, h => by simp [hasId] at h
  | (i, y) :: l, k, h => by
    simp only [hasId, Bool.or_eq_true] at h
    rcases h with h | h
    · have := Nat.eq_of_beq_eq_true h; subst this; exact ⟨y, by simp⟩
    · obtain ⟨z, hz⟩ := hasId_mem l k h; exact ⟨z, by simp [hz]⟩
theorem hasIds_mem {R : List (Nat × Lay)} : ∀ (l : List (Nat × Lay)), hasIds R l = true → ∀ i y, (i, y) ∈ l → ∃ z, (i, z) ∈ R
  | [], _, i, y, h => by simp at h
  | (j, z) :: l, hh, i, y, h => by
    simp only [hasIds, Bool.and_eq_true] at hh
    rcases List.mem_cons.1 h with h | h
    · simp only [Prod.mk.injEq] at h
      obtain ⟨rfl, rfl⟩ := h
      exact hasId_mem R i hh.1
    · exact hasIds_mem l hh.2 i y h

theorem renL_mem {φ : Nat → Nat} : ∀ (l : List (Nat × Lay)) (i : Nat) (y : Lay), (i, y) ∈ renL φ l ↔ ∃ c z, (c, z) ∈ l ∧ i = φ c ∧ y = z.ren φ
  | [], i, y => by simp [renL]
  | (c, z) :: l, i, y => by
    simp only [renL, List.mem_cons, Prod.mk.injEq, renL_mem l i y]
    constructor
    · rintro (⟨rfl, rfl⟩ | ⟨c', z', h1, h2, h3⟩)
      · exact ⟨c, z, .inl ⟨rfl, rfl⟩, rfl, rfl⟩
      · exact ⟨c', z', .inr h1, h2, h3⟩
    · rintro ⟨c', z', ⟨rfl, rfl⟩ | h1, h2, h3⟩
      · exact .inl ⟨h2, h3⟩
      · exact .inr ⟨c', z', h1, h2, h3⟩

theorem putsL_get (t : Tr AObj) : ∀ (l : List (Nat × Lay)) (i : Nat), (∃ y, (i, y) ∈ l ∧ (putsL t l).get i = some y.obj) ∨ ((∀ y, (i, y) ∉ l) ∧ (putsL t l).get i = t.get i)
  | [], i => .inr ⟨by simp, rfl⟩
  | (j, y) :: l, i => by
    simp only [putsL, FE.trPut_eq, Tr.get_put]
    by_cases h : i = j
    · subst h; exact .inl ⟨y, by simp, by simp⟩
    · rw [if_neg h]
      rcases putsL_get t l i with ⟨z, h1, h2⟩ | ⟨h1, h2⟩
      · exact .inl ⟨z, by simp [h1], h2⟩
      · exact .inr ⟨fun z hz => by
          rcases List.mem_cons.1 hz with hz | hz
          · simp only [Prod.mk.injEq] at hz; exact h hz.1
          · exact h1 z hz, h2⟩

theorem distinct_spec : ∀ (l : List Nat), distinct l = true → ∀ i j, i < l.length → j < l.length → l.getD i 0 = l.getD j 0 → i = j
  | [], _, i, j, hi, _, _ => by simp at hi
  | x :: l, h, i, j, hi, hj, he => by
    simp only [distinct, Bool.and_eq_true, Bool.not_eq_true'] at h
    have hx : ∀ k, k < l.length → l.getD k 0 ≠ x := by
      intro k hk e
      have h1 := h.1
      rw [List.any_eq_false] at h1
      have := h1 (l.getD k 0) (by rw [List.getD_eq_getElem?_getD, List.getElem?_eq_getElem hk]; simp)
      rw [e] at this
      exact this (Nat.beq_refl x)
    cases i with
    | zero => cases j with
      | zero => rfl
      | succ j => exact absurd he.symm (by simpa using hx j (by simpa using hj))
    | succ i => cases j with
      | zero => exact absurd he (by simpa using hx i (by simpa using hi))
      | succ j =>
        have := distinct_spec l h.2 i j (by simpa using hi) (by simpa using hj) (by simpa using he)
        omega

/-! ### what was run once holds of every like call -/
section
variable {P : Program}

/-- the call does what the evaluator says, at f -/
def RunOk [Base] (P : Program) (f : FuncId) (call : List AV → Heap → Option (AV × Heap)) : Prop :=
  ∀ vs H v H', call vs H = some (v, H') → ∀ ρ w us, Rel P ρ H w → VRels ρ vs us →
    (callFunc f us.toArray).run P w = .ok (.enter f us.toArray) w ∧ Calls P f us.toArray w (Post P ρ H w v H')

theorem renId_lo {σ : List Nat} {m base i : Nat} (h : i < m) : renId σ m base i = σ.getD i 0 := by
  unfold renId; rw [if_pos (by simpa using h)]
theorem renId_hi {σ : List Nat} {m base i : Nat} (h : m ≤ i) : renId σ m base i = base + (i - m) := by
  unfold renId; rw [if_neg (by simp; omega)]

set_option maxHeartbeats 1000000 in
theorem Canon.ok [Base] {f : FuncId} {c : Canon} {call : List AV → Heap → Option (AV × Heap)} (hrun : RunOk P f call) (hran : c.ran call = true) : RunOk P f c.spec := by
  unfold Canon.ran at hran
  split at hran
  case h_2 => cases hran
  rename_i v0 H0 hcall
  simp only [Bool.and_eq_true] at hran
  obtain ⟨⟨⟨⟨⟨⟨⟨hv, hR⟩, huA⟩, huO⟩, huR⟩, huv⟩, hids⟩, hmn⟩ := hran
  have hv := AV.same_eq _ _ hv
  subst hv
  have hmn : c.m ≤ c.next := Nat.le_of_ble_eq_true hmn
  intro args H v H' hs ρ w us hr hu
  unfold Canon.spec at hs
  generalize getAll (pairsO H c.O (AV.pairsL c.args args)) c.m 0 = σ at hs
  unfold Canon.apply at hs
  split at hs
  case isFalse => cases hs
  rename_i hc
  simp only [Bool.and_eq_true] at hc
  obtain ⟨⟨⟨hlen, hdis⟩, hargs⟩, hobj⟩ := hc
  have hlen := Nat.eq_of_beq_eq_true hlen
  rw [FE.len_eq] at hlen
  have hargs := AV.sames_eq _ _ hargs
  simp only [Option.some.injEq, Prod.mk.injEq] at hs
  obtain ⟨rfl, rfl⟩ := hs
  generalize hφ : renId σ c.m H.next = φ at *
  have lo : ∀ i, i < c.m → φ i = σ.getD i 0 := fun i h => by rw [← hφ]; exact renId_lo h
  have hi : ∀ i, c.m ≤ i → φ i = H.next + (i - c.m) := fun i h => by rw [← hφ]; exact renId_hi h
  -- the objects that came in
  have hin : ∀ i y, (i, y) ∈ c.O → i < c.m ∧ y.under c.m = true ∧ ∃ o, H.get (φ i) = some o ∧ (y.ren φ).eqv o = true := by
    intro i y h
    obtain ⟨h1, h2⟩ := underL_mem c.O huO i y h
    obtain ⟨o, h3, h4⟩ := eqvL_mem _ hobj (φ i) (y.ren φ) ((renL_mem c.O _ _).2 ⟨i, y, h, rfl, rfl⟩)
    exact ⟨h1, h2, o, h3, h4⟩
  have hget0 : ∀ i o, (⟨mkHeap c.O, c.m⟩ : Heap).get i = some o → ∃ y, (i, y) ∈ c.O ∧ o = y.obj := fun i o h => mkHeap_get c.O i o h
  -- the relation at the objects of the run
  let ρc : Ren := fun i => if i < c.m then ρ (φ i) else none
  have hρc : ∀ i e, i < c.m → ρ (φ i) = some e → ρc i = some e := fun i e h1 h2 => by show (if i < c.m then ρ (φ i) else none) = _; rw [if_pos h1]; exact h2
  have hρc' : ∀ i e, ρc i = some e → i < c.m ∧ ρ (φ i) = some e := by
    intro i e h
    have h : (if i < c.m then ρ (φ i) else none) = some e := h
    split at h
    · rename_i hlt; exact ⟨hlt, h⟩
    · cases h
  have hrc : Rel P ρc ⟨mkHeap c.O, c.m⟩ w := by
    refine ⟨?_, ?_, fun i e he => hr.rng _ _ (hρc' i e he).2, fun i e he => (hρc' i e he).1, fun b o hk => ⟨(hr.kept b o hk).1, fun i q e hq _ he => ?_⟩⟩
    · intro i o h _
      obtain ⟨y, hy, rfl⟩ := hget0 i o h
      obtain ⟨h1, h2, o', h3, h4⟩ := hin i y hy
      obtain ⟨e, he, ho⟩ := hr.obj _ _ h3 (Lay.eqv_live h4)
      refine ⟨e, hρc i e h1 he, ?_⟩
      have := ORel.tr (P := P) (f := φ) (g := fun i => i) (ρ := ρ) (ρ' := ρc) (N := c.m) hρc h2 h4 ho
      rwa [Lay.ren_id] at this
    · intro i j o o' e e' h _ h' _ he he' hb
      obtain ⟨y, hy, rfl⟩ := hget0 i o h
      obtain ⟨y', hy', rfl⟩ := hget0 j o' h'
      obtain ⟨h1, _, q, h3, h4⟩ := hin i y hy
      obtain ⟨h1', _, q', h3', h4'⟩ := hin j y' hy'
      have := hr.inj _ _ q q' e e' h3 (Lay.eqv_live h4) h3' (Lay.eqv_live h4') (hρc' i e he).2 (hρc' j e' he').2 hb
      rw [lo i h1, lo j h1'] at this
      exact distinct_spec σ hdis i j (by omega) (by omega) this
    · obtain ⟨y, hy, rfl⟩ := hget0 i q hq
      obtain ⟨_, _, q', h3, h4⟩ := hin i y hy
      exact (hr.kept b o hk).2 _ q' e h3 (Lay.eqv_live h4) (hρc' i e he).2
  have huc : VRels ρc c.args us := by
    rw [hargs] at hu
    have := VRels.tr (f := φ) (g := fun i => i) (N := c.m) hρc c.args us huA hu
    rwa [AV.rens_id] at this
  obtain ⟨henter, hcalls⟩ := hrun c.args ⟨mkHeap c.O, c.m⟩ c.v H0 hcall ρc w us hrc huc
  refine ⟨henter, hcalls.mono ?_⟩
  intro en w' hq
  cases en with
  | panicked _ => exact hq.elim
  | outgrown => exact hq.elim
  | returned u =>
  obtain ⟨ρ1, hvu, hr1, hst⟩ := hq
  -- the objects that come out
  have hout : ∀ i y, (i, y) ∈ c.R → i < c.next ∧ y.under c.next = true ∧ ∃ o, H0.get i = some o ∧ y.eqv o = true := by
    intro i y h
    obtain ⟨h1, h2⟩ := underL_mem c.R huR i y h
    obtain ⟨o, h3, h4⟩ := eqvL_mem _ hR i y h
    exact ⟨h1, h2, o, h3, h4⟩
  let ρ2 : Ren := fun i => if i < H.next then ρ i else if i < H.next + (c.next - c.m) then ρ1 (c.m + (i - H.next)) else none
  have h2lo : ∀ i, i < H.next → ρ2 i = ρ i := fun i h => if_pos h
  have h2hi : ∀ k, c.m ≤ k → k < c.next → ρ2 (H.next + (k - c.m)) = ρ1 k := by
    intro k h1 h2
    show (if H.next + (k - c.m) < H.next then ρ (H.next + (k - c.m)) else if H.next + (k - c.m) < H.next + (c.next - c.m) then ρ1 (c.m + (H.next + (k - c.m) - H.next)) else none) = _
    rw [if_neg (by omega), if_pos (by omega)]
    congr 1; omega
  have h2some : ∀ i e, ρ2 i = some e → (i < H.next ∧ ρ i = some e) ∨ (∃ k, c.m ≤ k ∧ k < c.next ∧ i = H.next + (k - c.m) ∧ ρ1 k = some e) := by
    intro i e h
    have h : (if i < H.next then ρ i else if i < H.next + (c.next - c.m) then ρ1 (c.m + (i - H.next)) else none) = some e := h
    split at h
    · rename_i hl; exact .inl ⟨hl, h⟩
    · rename_i hl
      split at h
      · rename_i hl2; exact .inr ⟨c.m + (i - H.next), by omega, by omega, by omega, h⟩
      · cases h
  have hle : ρ.le ρ2 := fun i e he => by rw [h2lo i (hr.nxt i e he)]; exact he
  have h1old : ∀ i e, i < c.m → ρ1 i = some e → ρ (φ i) = some e := by
    intro i e h1 h2
    cases hc : ρc i with
    | none =>
      rcases hst.new i e hc h2 with h3 | h3
      · have h3 : c.m ≤ i := h3
        omega
      · cases h3
    | some e' =>
      have := hst.ext i e' hc
      rw [h2] at this; simp only [Option.some.injEq] at this; subst this
      exact (hρc' i e hc).2
  have htr : ∀ i e, i < c.next → ρ1 i = some e → ρ2 (φ i) = some e := by
    intro i e h1 h2
    by_cases hm : i < c.m
    · exact hle _ _ (h1old i e hm h2)
    · rw [hi i (by omega), h2hi i (by omega) h1]; exact h2
  -- what lies in the heap then
  have hget2 : ∀ i o, (⟨putsL H.m (renL φ c.R), H.next + (c.next - c.m)⟩ : Heap).get i = some o → (∃ k y, (k, y) ∈ c.R ∧ i = φ k ∧ o = (y.ren φ).obj) ∨ ((∀ k y, (k, y) ∈ c.R → i ≠ φ k) ∧ H.get i = some o) := by
    intro i o h
    have h : (putsL H.m (renL φ c.R)).get i = some o := h
    rcases putsL_get H.m (renL φ c.R) i with ⟨y, h1, h2⟩ | ⟨h1, h2⟩
    · obtain ⟨k, z, h3, h4, h5⟩ := (renL_mem c.R _ _).1 h1
      rw [h2] at h; simp only [Option.some.injEq] at h
      exact .inl ⟨k, z, h3, h4, by rw [← h, h5]⟩
    · refine .inr ⟨fun k y hk e => h1 (y.ren φ) ((renL_mem c.R _ _).2 ⟨k, y, hk, e, rfl⟩), h2.symm.trans h⟩
  -- an object of the run's start is one of its end
  have hback : ∀ j y, (j, y) ∈ c.O → ∃ z, (j, z) ∈ c.R := fun j y h => hasIds_mem c.O hids j y h
  -- an old object that the run did not see
  have hkeep : ∀ i o, H.get i = some o → o.live → (∀ k y, (k, y) ∈ c.R → i ≠ φ k) → ∃ e, ρ i = some e ∧ ORel P ρ e o w.heap[e.blk]? ∧ w'.heap[e.blk]? = w.heap[e.blk]? ∧ ∀ j y e', (j, y) ∈ c.O → ρc j = some e' → e'.blk ≠ e.blk := by
    intro i o h hl hne
    obtain ⟨e, he, ho⟩ := hr.obj i o h hl
    have hno : ∀ j y e', (j, y) ∈ c.O → ρc j = some e' → e'.blk ≠ e.blk := by
      intro j y e' hj he' hb
      obtain ⟨_, _, q, h3, h4⟩ := hin j y hj
      have := hr.inj _ _ q o e' e h3 (Lay.eqv_live h4) h hl (hρc' j e' he').2 he hb
      obtain ⟨z, hz⟩ := hback j y hj
      exact hne j z hz this.symm
    refine ⟨e, he, ho, hst.frame e.blk (hr.rng i e he) ?_, hno⟩
    intro j q e' hj _ he' hb
    obtain ⟨y, hy, _⟩ := hget0 j q hj
    exact hno j y e' hy he' hb
  -- an object of the run's end in an old block was there at its start
  have hfrom : ∀ k o e, H0.get k = some o → o.live → ρ1 k = some e → e.blk < w.heap.size → ∃ j y, (j, y) ∈ c.O ∧ k = j ∧ ρc j = some e := by
    intro k o e hk hl he hb
    obtain ⟨j, o', e', hj, hl', he', hb'⟩ := hst.live k o e hk hl he hb
    obtain ⟨y, hy, _⟩ := hget0 j o' hj
    obtain ⟨z, hz⟩ := hback j y hy
    obtain ⟨_, _, q, h3, h4⟩ := hout j z hz
    have := hr1.inj k j o q e e' hk hl h3 (Lay.eqv_live h4) he (hst.ext j e' he') hb'.symm
    subst this
    have h5 := hst.ext k e' he'
    rw [he] at h5; simp only [Option.some.injEq] at h5; subst h5
    exact ⟨k, y, hy, rfl, he'⟩
  have hnew : ∀ k y, (k, y) ∈ c.R → ∃ e, ρ1 k = some e ∧ ρ2 (φ k) = some e ∧ ORel P ρ2 e (y.ren φ).obj w'.heap[e.blk]? := by
    intro k y hk
    obtain ⟨h1, h2, o, h3, h4⟩ := hout k y hk
    obtain ⟨e, he, ho⟩ := hr1.obj k o h3 (Lay.eqv_live h4)
    refine ⟨e, he, htr k e h1 he, ?_⟩
    exact ORel.tr (P := P) (f := fun i => i) (g := φ) (N := c.next) htr h2 (by rw [Lay.ren_id]; exact h4) ho
  refine ⟨ρ2, VRel.tr (f := fun i => i) (g := φ) (N := c.next) htr c.v u huv (by rw [AV.ren_id]; exact hvu), ⟨?_, ?_, ?_, ?_, ?_⟩, ?_⟩
  · intro i o h hl
    rcases hget2 i o h with ⟨k, y, hk, rfl, rfl⟩ | ⟨hne, h⟩
    · obtain ⟨e, _, h2, h3⟩ := hnew k y hk
      exact ⟨e, h2, h3⟩
    · obtain ⟨e, he, ho, hw, _⟩ := hkeep i o h hl hne
      exact ⟨e, hle i e he, by rw [hw]; exact ORel.mono hle _ _ _ ho⟩
  · -- no two in one block
    have cross : ∀ k y i o e e', (k, y) ∈ c.R → H.get i = some o → o.live → (∀ k y, (k, y) ∈ c.R → i ≠ φ k) → ρ2 (φ k) = some e → ρ2 i = some e' → e.blk = e'.blk → False := by
      intro k y i o e e' hk h hl hne he he' hb
      obtain ⟨e1, h1, h2, _⟩ := hnew k y hk
      rw [he] at h2; simp only [Option.some.injEq] at h2; subst h2
      obtain ⟨f1, hf, _, _, hno⟩ := hkeep i o h hl hne
      have := hle i f1 hf
      rw [he'] at this; simp only [Option.some.injEq] at this; subst this
      obtain ⟨_, _, q, h3, h4⟩ := hout k y hk
      obtain ⟨j, z, hj, hkj, hρj⟩ := hfrom k q e h3 (Lay.eqv_live h4) h1 (by rw [hb]; exact hr.rng i e' hf)
      exact hno j z e hj hρj hb
    intro i j o o' e e' h hl h' hl' he he' hb
    rcases hget2 i o h with ⟨k, y, hk, rfl, rfl⟩ | ⟨hne, h⟩
    · rcases hget2 j o' h' with ⟨k', y', hk', rfl, rfl⟩ | ⟨hne', h'⟩
      · obtain ⟨e1, h1, h2, _⟩ := hnew k y hk
        obtain ⟨e1', h1', h2', _⟩ := hnew k' y' hk'
        rw [he] at h2; rw [he'] at h2'
        simp only [Option.some.injEq] at h2 h2'
        subst h2 h2'
        obtain ⟨_, _, q, h3, h4⟩ := hout k y hk
        obtain ⟨_, _, q', h3', h4'⟩ := hout k' y' hk'
        rw [hr1.inj k k' q q' e e' h3 (Lay.eqv_live h4) h3' (Lay.eqv_live h4') h1 h1' hb]
      · exact (cross k y j o' e e' hk h' hl' hne' he he' hb).elim
    · rcases hget2 j o' h' with ⟨k', y', hk', rfl, rfl⟩ | ⟨hne', h'⟩
      · exact (cross k' y' i o e' e hk' h hl hne he' he hb.symm).elim
      · obtain ⟨f1, hf, _⟩ := hkeep i o h hl hne
        obtain ⟨f2, hf', _⟩ := hkeep j o' h' hl' hne'
        have h1 := hle i f1 hf
        have h2 := hle j f2 hf'
        rw [he] at h1; rw [he'] at h2
        simp only [Option.some.injEq] at h1 h2
        subst h1 h2
        exact hr.inj i j o o' e e' h hl h' hl' hf hf' hb
  · intro i e he
    rcases h2some i e he with ⟨_, h⟩ | ⟨k, _, _, _, h⟩
    · exact Nat.lt_of_lt_of_le (hr.rng i e h) hst.size
    · exact hr1.rng k e h
  · intro i e he
    rcases h2some i e he with ⟨h1, _⟩ | ⟨k, h1, h2, rfl, _⟩
    · show i < H.next + (c.next - c.m); omega
    · show H.next + (k - c.m) < H.next + (c.next - c.m); omega
  · intro b o hk
    refine ⟨(hr1.kept b o hk).1, fun i q e hq hl he => ?_⟩
    rcases hget2 i q hq with ⟨k, y, hkk, rfl, rfl⟩ | ⟨hne, hq⟩
    · obtain ⟨e1, h1, h2, _⟩ := hnew k y hkk
      rw [he] at h2; simp only [Option.some.injEq] at h2; subst h2
      obtain ⟨_, _, q', h3, h4⟩ := hout k y hkk
      exact (hr1.kept b o hk).2 k q' e h3 (Lay.eqv_live h4) h1
    · obtain ⟨f1, hf, _⟩ := hkeep i q hq hl hne
      have h1 := hle i f1 hf
      rw [he] at h1; simp only [Option.some.injEq] at h1; subst h1
      exact (hr.kept b o hk).2 i q e hq hl hf
  · refine ⟨hle, ?_, Nat.le_add_right .., hst.size, ?_, ?_, hst.os, hst.tape, hst.output, ?_⟩
    · intro i e h1 h2
      rcases h2some i e h2 with ⟨_, h⟩ | ⟨k, _, _, rfl, _⟩
      · rw [h1] at h; cases h
      · exact .inl (Nat.le_add_right ..)
    · intro b hb hn
      refine hst.frame b hb ?_
      intro j q e hj _ he
      obtain ⟨y, hy, _⟩ := hget0 j q hj
      obtain ⟨_, _, o, h3, h4⟩ := hin j y hy
      exact hn (φ j) o e h3 (Lay.eqv_live h4) (hρc' j e he).2
    · intro i o e h hl he hb
      rcases hget2 i o h with ⟨k, y, hk, rfl, rfl⟩ | ⟨hne, h⟩
      · obtain ⟨e1, h1, h2, _⟩ := hnew k y hk
        rw [he] at h2; simp only [Option.some.injEq] at h2; subst h2
        obtain ⟨_, _, q, h3, h4⟩ := hout k y hk
        obtain ⟨j, z, hj, rfl, hρj⟩ := hfrom k q e h3 (Lay.eqv_live h4) h1 hb
        obtain ⟨_, _, o', h5, h6⟩ := hin k z hj
        exact ⟨φ k, o', e, h5, Lay.eqv_live h6, (hρc' k e hρj).2, rfl⟩
      · obtain ⟨f1, hf, _⟩ := hkeep i o h hl hne
        have h1 := hle i f1 hf
        rw [he] at h1; simp only [Option.some.injEq] at h1; subst h1
        exact ⟨i, o, e, h, hl, hf, rfl⟩
    · intro i hlt hdead _ o h
      rcases hget2 i o h with ⟨k, y, hk, hik, rfl⟩ | ⟨_, h⟩
      · exfalso
        by_cases hm : k < c.m
        · by_cases hO : ∃ z, (k, z) ∈ c.O
          · obtain ⟨z, hz⟩ := hO
            obtain ⟨_, _, q, h3, h4⟩ := hin k z hz
            rw [← hik] at h3
            exact hdead q h3 (Lay.eqv_live h4)
          · obtain ⟨_, _, q, h3, h4⟩ := hout k y hk
            refine hst.old k hm (fun o ho => ?_) (by simp) q h3 (Lay.eqv_live h4)
            obtain ⟨z, hz, _⟩ := hget0 k o ho
            exact absurd ⟨z, hz⟩ hO
        · rw [hi k (by omega)] at hik; omega
      · exact hdead o h
end
end AE
