/- The abstract evaluator: what its heap has to do with a world of the model. Conditions: none. -/
import Derived.Test.YtandggoanbdjkaaGreatDoorWAEDefs
import Derived.Laws.Cells
import Derived.Below
namespace AE
open Go

/-! ### tables -/

theorem Tr.get_leaf {α : Type} (j : Nat) : (Tr.leaf : Tr α).get j = none := rfl

theorem Tr.get_putF {α : Type} (v : α) : ∀ (n : Nat) (t : Tr α) (k j : Nat), k < n → (Tr.putF v n t k).get j = if j = k then some v else t.get j := by
  intro n
  induction n with
  | zero => intro t k j h; omega
  | succ n ih =>
    intro t k j h
    cases t with
    | leaf =>
      cases k with
      | zero => cases j with
        | zero => simp [Tr.putF, Tr.get]
        | succ j => simp only [Tr.putF, Tr.get]; split <;> simp
      | succ k =>
        have hk : k / 2 < n := by omega
        cases j with
        | zero => simp only [Tr.putF]; split <;> simp [Tr.get]
        | succ j =>
          simp only [Tr.putF]
          by_cases hp : k % 2 = 0 <;> by_cases hq : j % 2 = 0 <;> simp only [hp, hq, if_true, if_false, Tr.get]
          · rw [ih _ _ _ hk]; simp only [Tr.get]
            by_cases e : j / 2 = k / 2
            · rw [if_pos e, if_pos (by omega)]
            · rw [if_neg e, if_neg (by omega)]
          · rw [if_neg (by omega)]
          · rw [if_neg (by omega)]
          · rw [ih _ _ _ hk]; simp only [Tr.get]
            by_cases e : j / 2 = k / 2
            · rw [if_pos e, if_pos (by omega)]
            · rw [if_neg e, if_neg (by omega)]
    | node l x r =>
      cases k with
      | zero => cases j with
        | zero => simp [Tr.putF, Tr.get]
        | succ j => simp [Tr.putF, Tr.get]
      | succ k =>
        have hk : k / 2 < n := by omega
        cases j with
        | zero => simp only [Tr.putF]; split <;> simp [Tr.get]
        | succ j =>
          simp only [Tr.putF]
          by_cases hp : k % 2 = 0 <;> by_cases hq : j % 2 = 0 <;> simp only [hp, hq, if_true, if_false, Tr.get]
          · rw [ih _ _ _ hk]
            by_cases e : j / 2 = k / 2
            · rw [if_pos e, if_pos (by omega)]
            · rw [if_neg e, if_neg (by omega)]
          · rw [if_neg (by omega)]
          · rw [if_neg (by omega)]
          · rw [ih _ _ _ hk]
            by_cases e : j / 2 = k / 2
            · rw [if_pos e, if_pos (by omega)]
            · rw [if_neg e, if_neg (by omega)]

theorem Tr.get_put {α : Type} (t : Tr α) (k : Nat) (v : α) (j : Nat) : (t.put k v).get j = if j = k then some v else t.get j :=
  Tr.get_putF v (k + 1) t k j (by omega)

theorem putL_get : ∀ (l : List AV) (i : Nat) (t : Tr AV) (j : Nat), (putL i l t).get j = if i ≤ j ∧ j < i + l.length then l[j - i]? else t.get j := by
  intro l
  induction l with
  | nil => intro i t j; simp only [putL, List.length_nil, Nat.add_zero]; rw [if_neg (by omega)]
  | cons v l ih =>
    intro i t j
    simp only [putL, ih, List.length_cons]
    by_cases h1 : i + 1 ≤ j ∧ j < i + 1 + l.length
    · rw [if_pos h1, if_pos (by omega)]
      have : j - i = (j - (i + 1)) + 1 := by omega
      rw [this, List.getElem?_cons_succ]
    · rw [if_neg h1, Tr.get_put]
      by_cases h2 : j = i
      · subst h2; rw [if_pos rfl, if_pos (by omega)]; simp
      · rw [if_neg h2, if_neg (by omega)]

/-! ### blocks -/

theorem Blk.get_put (b : Blk) (k : Nat) (v : AV) (j : Nat) (hk : k < b.n) : (b.put k v).get j = if j = k then some v else b.get j := by
  unfold Blk.get Blk.put
  simp only [Tr.get_put]
  by_cases h : j = k
  · subst h; simp [hk]
  · simp [h]

theorem Blk.get_ofList (t : TypeId) (g : Bool) (l : List AV) (j : Nat) : (Blk.ofList t g l).get j = l[j]? := by
  unfold Blk.get Blk.ofList
  simp only [putL_get, Nat.zero_le, true_and, Nat.zero_add, Nat.sub_zero, Tr.get_leaf]
  by_cases h : j < l.length
  · simp [h]
  · simp [h]

theorem Blk.get_zeros (t : TypeId) (c : Nat) (zs : List AV) (j : Nat) : (Blk.zeros t c zs).get j = if j < c * zs.length then zs[j % zs.length]? else none := by
  unfold Blk.get Blk.zeros
  simp only [putL_get, Nat.zero_le, true_and, Nat.zero_add, Nat.sub_zero, Tr.get_leaf]
  by_cases h : j < c * zs.length
  · have hz : 0 < zs.length := by
      rcases Nat.eq_zero_or_pos zs.length with h0 | h0
      · rw [h0] at h; omega
      · exact h0
    simp only [h, if_true]
    rw [if_pos (Nat.mod_lt _ hz)]
  · simp [h]

theorem Blk.load_spec (b : Blk) : ∀ (n off : Nat) (vs : List AV), b.load off n = some vs → vs.length = n ∧ ∀ j, j < n → b.get (off + j) = vs[j]? := by
  intro n
  induction n with
  | zero => intro off vs h; simp only [Blk.load, Option.some.injEq] at h; subst h; exact ⟨rfl, fun j hj => by omega⟩
  | succ n ih =>
    intro off vs h
    simp only [Blk.load, Option.bind_eq_some_iff, Option.some.injEq] at h
    obtain ⟨v, hv, ws, hws, rfl⟩ := h
    obtain ⟨hl, hg⟩ := ih _ _ hws
    refine ⟨by simp [hl], fun j hj => ?_⟩
    cases j with
    | zero => simpa using hv
    | succ j => rw [List.getElem?_cons_succ, ← hg j (by omega)]; congr 1; omega

theorem Blk.load_range (b : Blk) : ∀ (off n : Nat), (∀ j, j < n → ∃ x, b.get (off + j) = some x) → b.load off n = some ((List.range n).map fun j => (b.get (off + j)).getD .undef) := by
  intro off n
  induction n generalizing off with
  | zero => intro _; rfl
  | succ n ih =>
    intro h
    obtain ⟨x, hx⟩ := h 0 (by omega)
    have h1 := ih (off + 1) (fun j hj => by obtain ⟨y, hy⟩ := h (j + 1) (by omega); exact ⟨y, by rw [← hy]; congr 1; omega⟩)
    simp only [Nat.add_zero] at hx
    simp only [Blk.load, hx, h1, Option.bind_some, List.range_succ_eq_map, List.map_cons, List.map_map, Nat.add_zero, Option.getD_some]
    congr 2
    apply List.map_congr_left
    intro j _
    simp only [Function.comp_apply]
    congr 2
    omega

/-- what stays of a block when cells are laid into it -/
theorem Blk.store_spec : ∀ (vs : List AV) (b : Blk) (off : Nat) (b' : Blk), b.store off vs = some b' →
    b'.t = b.t ∧ b'.g = b.g ∧ b'.n = b.n ∧ (vs = [] ∨ off + vs.length ≤ b.n) ∧ (∀ v ∈ vs, v.flat = true) ∧
    ∀ j, b'.get j = if off ≤ j ∧ j < off + vs.length then vs[j - off]? else b.get j := by
  intro vs
  induction vs with
  | nil =>
    intro b off b' h
    simp only [Blk.store, Option.some.injEq] at h
    subst h
    refine ⟨rfl, rfl, rfl, Or.inl rfl, by simp, fun j => ?_⟩
    rw [if_neg (by simp only [List.length_nil]; omega)]
  | cons v vs ih =>
    intro b off b' h
    simp only [Blk.store] at h
    split at h
    · rename_i ho
      split at h
      · rename_i hf
        obtain ⟨h1, h2, h3, h4, h5, h6⟩ := ih _ _ _ h
        refine ⟨h1, h2, h3, Or.inr ?_, ?_, fun j => ?_⟩
        · have hn : (b.put off v).n = b.n := rfl
          rcases h4 with h4 | h4
          · subst h4; simp; omega
          · rw [hn] at h4; simp; omega
        · intro w hw
          rcases List.mem_cons.1 hw with rfl | hw
          · exact hf
          · exact h5 w hw
        · rw [h6, List.length_cons]
          by_cases c1 : off + 1 ≤ j ∧ j < off + 1 + vs.length
          · rw [if_pos c1, if_pos (by omega)]
            have : j - off = (j - (off + 1)) + 1 := by omega
            rw [this, List.getElem?_cons_succ]
          · rw [if_neg c1, Blk.get_put _ _ _ _ ho]
            by_cases c2 : j = off
            · subst c2; rw [if_pos rfl, if_pos (by omega)]; simp
            · rw [if_neg c2, if_neg (by omega)]
      · cases h
    · cases h

/-! ### values -/

/-- Where an object of the abstract heap lies: its block, how many cells that has, how many an element takes. -/
structure Ent where
  blk : Nat
  room : Nat
  sz : Nat

abbrev Ren := Nat → Option Ent

mutual
/-- What an abstract value stands for. -/
def VRel (ρ : Ren) : AV → Value → Prop
  | .bool a, .bool b => a = b
  | .int k a, .int l b => k = l ∧ a = b
  | .str a, .string b => a = b
  | .ptr none, .pointer none => True
  | .ptr (some (i, off)), .pointer (some a) => ∃ e, ρ i = some e ∧ a = ⟨e.blk, off, none⟩
  | .gptr g, .pointer (some a) => a = ⟨g, 0, none⟩
  | .slice none l c ex, .slice none l' c' => l = l' ∧ c = c' ∧ ex = true ∧ l ≤ c
  | .slice (some (i, off)) l c ex, .slice (some a) l' c' => l = l' ∧ l ≤ c ∧ ∃ e, ρ i = some e ∧ a = ⟨e.blk, off, none⟩ ∧ c ≤ c' ∧ (if ex then c' = c else (off = 0 → c' * e.sz ≤ e.room))
  | .mt, .slice (some _) l _ => l = 0
  | .map none, .map none => True
  | .map (some i), .map (some r) => ∃ e, ρ i = some e ∧ r = e.blk
  | .func f x y, .func fn x' y' => fn = .func f ∧ VRels ρ x x'.toList ∧ VRels ρ y y'.toList
  | .nilFunc, .nilFunc => True
  | .iface t v, .iface t' v' => t = t' ∧ VRel ρ v v'
  | .nilIface, .nilIface => True
  | .agg xs, .agg ys => VRels ρ xs ys.toList
  | .tuple xs, .tuple ys => VRels ρ xs ys.toList
  | .top, _ => True
  | .sym i n, .int k m => k = .i64 ∧ ∃ e, ρ i = some e ∧ e.sz ≤ 2305843009213693952 ∧ n ≤ 2305843009213693952 ∧ m = ((e.sz + n : Nat) : Int)
  | _, _ => False
def VRels (ρ : Ren) : List AV → List Value → Prop
  | [], [] => True
  | x :: xs, y :: ys => VRel ρ x y ∧ VRels ρ xs ys
  | _, _ => False
end

def Ren.le (ρ ρ' : Ren) : Prop := ∀ i e, ρ i = some e → ρ' i = some e

mutual
theorem VRel.mono {ρ ρ' : Ren} (h : ρ.le ρ') : ∀ (x : AV) (v : Value), VRel ρ x v → VRel ρ' x v
  | x, v, hr => by
    cases x with
    | bool a => cases v <;> simp_all [VRel]
    | int k a => cases v <;> simp_all [VRel]
    | str a => cases v <;> simp_all [VRel]
    | ptr a =>
      cases v with
      | pointer b =>
        cases a with
        | none => cases b <;> simp_all [VRel]
        | some a => cases b with
          | none => simp [VRel] at hr
          | some b => simp only [VRel] at *; obtain ⟨e, he, hb⟩ := hr; exact ⟨e, h _ _ he, hb⟩
      | _ => cases a <;> simp_all [VRel]
    | gptr g => cases v with
      | pointer b => cases b <;> simp_all [VRel]
      | _ => simp_all [VRel]
    | slice a l c ex =>
      cases v with
      | slice b l' c' =>
        cases a with
        | none => cases b with
          | none => simpa [VRel] using hr
          | some b => simp [VRel] at hr
        | some a => cases b with
          | none => simp [VRel] at hr
          | some b => simp only [VRel] at *; obtain ⟨hl, hlc, e, he, hb⟩ := hr; exact ⟨hl, hlc, e, h _ _ he, hb⟩
      | _ => cases a <;> simp_all [VRel]
    | mt => cases v with
      | slice b l' c' => cases b <;> simp_all [VRel]
      | _ => simp_all [VRel]
    | map a =>
      cases v with
      | map b =>
        cases a with
        | none => cases b <;> simp_all [VRel]
        | some a => cases b with
          | none => simp [VRel] at hr
          | some b => simp only [VRel] at *; obtain ⟨e, he, hb⟩ := hr; exact ⟨e, h _ _ he, hb⟩
      | _ => cases a <;> simp_all [VRel]
    | func f a b =>
      cases v with
      | func fn a' b' => simp only [VRel] at *; exact ⟨hr.1, VRels.mono h _ _ hr.2.1, VRels.mono h _ _ hr.2.2⟩
      | _ => simp_all [VRel]
    | nilFunc => cases v <;> simp_all [VRel]
    | iface t a =>
      cases v with
      | iface t' a' => simp only [VRel] at *; exact ⟨hr.1, VRel.mono h _ _ hr.2⟩
      | _ => simp_all [VRel]
    | nilIface => cases v <;> simp_all [VRel]
    | agg xs =>
      cases v with
      | agg ys => simp only [VRel] at *; exact VRels.mono h _ _ hr
      | _ => simp_all [VRel]
    | tuple xs =>
      cases v with
      | tuple ys => simp only [VRel] at *; exact VRels.mono h _ _ hr
      | _ => simp_all [VRel]
    | top => simp [VRel]
    | sym i n =>
      cases v with
      | int k m => simp only [VRel] at *; obtain ⟨hk, e, he, hb⟩ := hr; exact ⟨hk, e, h _ _ he, hb⟩
      | _ => simp [VRel] at hr
theorem VRels.mono {ρ ρ' : Ren} (h : ρ.le ρ') : ∀ (xs : List AV) (vs : List Value), VRels ρ xs vs → VRels ρ' xs vs
  | [], [], _ => trivial
  | [], _ :: _, hr => by simp [VRels] at hr
  | _ :: _, [], hr => by simp [VRels] at hr
  | x :: xs, v :: vs, hr => by
    simp only [VRels] at *
    exact ⟨VRel.mono h _ _ hr.1, VRels.mono h _ _ hr.2⟩
end
end AE
