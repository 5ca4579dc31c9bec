/- The abstract evaluator: operations that read, and those that lay values. Conditions: none. -/
import Derived.Test.YtandggoanbdjkaaGreatDoorAEHeap
namespace AE
open Go

mutual
theorem ofVal_rel (ρ : Ren) : ∀ (v : Value) (x : AV), ofVal v = some x → VRel ρ x v
  | .bool b, x, h => by simp only [ofVal, Option.some.injEq] at h; subst h; simp [VRel]
  | .int k n, x, h => by simp only [ofVal, Option.some.injEq] at h; subst h; simp [VRel]
  | .float .., x, h => by simp [ofVal] at h
  | .complex .., x, h => by simp [ofVal] at h
  | .string s, x, h => by simp only [ofVal, Option.some.injEq] at h; subst h; simp [VRel]
  | .pointer none, x, h => by simp only [ofVal, Option.some.injEq] at h; subst h; simp [VRel]
  | .pointer (some _), x, h => by simp [ofVal] at h
  | .slice none 0 0, x, h => by simp only [ofVal, Option.some.injEq] at h; subst h; simp [VRel]
  | .slice none 0 (_ + 1), x, h => by simp [ofVal] at h
  | .slice none (_ + 1) _, x, h => by simp [ofVal] at h
  | .slice (some _) _ _, x, h => by simp [ofVal] at h
  | .map none, x, h => by simp only [ofVal, Option.some.injEq] at h; subst h; simp [VRel]
  | .map (some _), x, h => by simp [ofVal] at h
  | .chan _, x, h => by simp [ofVal] at h
  | .func .., x, h => by simp [ofVal] at h
  | .nilFunc, x, h => by simp only [ofVal, Option.some.injEq] at h; subst h; simp [VRel]
  | .iface .., x, h => by simp [ofVal] at h
  | .nilIface, x, h => by simp only [ofVal, Option.some.injEq] at h; subst h; simp [VRel]
  | .agg ⟨cs⟩, x, h => by
    simp only [ofVal, Option.map_eq_some_iff] at h
    obtain ⟨ys, hy, rfl⟩ := h
    simp only [VRel]; exact ofVals_rel ρ cs ys hy
  | .tuple ⟨cs⟩, x, h => by
    simp only [ofVal, Option.map_eq_some_iff] at h
    obtain ⟨ys, hy, rfl⟩ := h
    simp only [VRel]; exact ofVals_rel ρ cs ys hy
theorem ofVals_rel (ρ : Ren) : ∀ (vs : List Value) (xs : List AV), ofVals vs = some xs → VRels ρ xs vs
  | [], xs, h => by simp only [ofVals, Option.some.injEq] at h; subst h; simp [VRels]
  | v :: vs, xs, h => by
    simp only [ofVals, Option.bind_eq_some_iff, Option.some.injEq] at h
    obtain ⟨x, hx, ys, hy, rfl⟩ := h
    simp only [VRels]; exact ⟨ofVal_rel ρ v x hx, ofVals_rel ρ vs ys hy⟩
end

theorem cells_rel {ρ : Ren} {x : AV} {u : Value} (hk : x.known = true) (h : VRel ρ x u) : VRels ρ x.cells u.cells.toList := by
  cases x <;> cases u <;> first
    | (simp [AV.known] at hk; done)
    | (simp only [VRel] at h; done)
    | (simp only [AV.cells, Value.cells, VRels, List.toList_toArray, and_true]; exact h)
    | (simp only [VRel] at h; simpa [AV.cells, Value.cells] using h)

theorem cells_length {ρ : Ren} {x : AV} {u : Value} (hk : x.known = true) (h : VRel ρ x u) : x.cells.length = u.cells.size := by
  have := VRels.length _ _ (cells_rel hk h); simpa using this

theorem ofVal_known : ∀ (v : Value) (x : AV), ofVal v = some x → x.known = true := by
  intro v x h
  cases v with
  | pointer p => cases p <;> simp [ofVal] at h; subst h; rfl
  | slice p l c =>
    cases p with
    | some p => simp [ofVal] at h
    | none => cases l <;> cases c <;> simp [ofVal] at h; subst h; rfl
  | map m => cases m <;> simp [ofVal] at h; subst h; rfl
  | agg cs =>
    obtain ⟨cs⟩ := cs
    simp only [ofVal, Option.map_eq_some_iff] at h
    obtain ⟨ys, _, rfl⟩ := h; rfl
  | tuple cs =>
    obtain ⟨cs⟩ := cs
    simp only [ofVal, Option.map_eq_some_iff] at h
    obtain ⟨ys, _, rfl⟩ := h; rfl
  | _ => first
    | (simp only [ofVal, Option.some.injEq] at h; subst h; rfl)
    | (simp [ofVal] at h; done)

section
variable {P : Program} {ρ : Ren} {H : Heap} {w : World}

theorem isAgg_run {t : TypeId} {b : Bool} (h : isAgg P t = some b) : (Go.isAgg t).run P w = .ok b w := by
  unfold isAgg at h
  cases hu : P.underlying t with
  | none => rw [hu] at h; simp at h
  | some d => rw [hu] at h; cases d <;> simp at h <;> subst h <;> simp [Go.isAgg, run_underlying hu]

theorem info_of_size {t : TypeId} {n : Nat} (h : sizeOf P t = some n) : ∃ i, P.info? t = some i ∧ i.size = n := by
  unfold sizeOf at h; simpa using h

theorem sizeOf_run {t : TypeId} {n : Nat} (h : sizeOf P t = some n) : (Go.sizeOf t).run P w = .ok n w := by
  obtain ⟨i, hi, rfl⟩ := info_of_size h
  simp [Go.sizeOf, typeInfo, hi]

theorem zero_run {t : TypeId} {z : AV} (h : zeroOf P t = some z) : ∃ u, (zeroValue t).run P w = .ok u w ∧ VRel ρ z u := by
  unfold zeroOf at h
  simp only [Option.bind_eq_some_iff] at h
  obtain ⟨i, hi, u, hu, hz⟩ := h
  exact ⟨u, by simp [zeroValue, typeInfo, hi, hu], ofVal_rel ρ u z hz⟩

/-- loading a variable -/
theorem loadVar_run [Base] (hr : Rel P ρ H w) {t : TypeId} {a v : AV} {p : Value} (h : loadVar P t H a = some v) (hp : VRel ρ a p) :
    ∃ ad u, p = .pointer (some ad) ∧ (Go.loadVar t ad).run P w = .ok u w ∧ VRel ρ v u := by
  unfold loadVar at h
  split at h
  · rename_i id off
    cases p with
    | pointer q =>
      cases q with
      | none => simp [VRel] at hp
      | some ad =>
        simp only [VRel] at hp
        obtain ⟨e, he, rfl⟩ := hp
        refine ⟨⟨e.blk, off, none⟩, ?_⟩
        simp only [Option.bind_eq_some_iff] at h
        obtain ⟨b, hb, h⟩ := h
        cases b with
        | true =>
          simp only [Option.bind_eq_some_iff, Option.map_eq_some_iff] at h
          obtain ⟨n, hn, l, hl, rfl⟩ := h
          obtain ⟨us, hrun, hrel, _⟩ := loadCells_run hr hl e he
          exact ⟨.agg us.toArray, rfl, by simp [Go.loadVar, isAgg_run hb, sizeOf_run hn, hrun w rfl], by simpa [VRel] using hrel⟩
        | false =>
          simp only [Option.bind_eq_some_iff] at h
          obtain ⟨l, hl, h⟩ := h
          obtain ⟨us, hrun, hrel, hlen⟩ := loadCells_run hr hl e he
          split at h
          · rename_i x
            simp only [Option.some.injEq] at h
            subst h
            cases us with
            | nil => simp at hlen
            | cons u us =>
              cases us with
              | cons _ _ => simp at hlen
              | nil =>
                simp only [VRels, and_true] at hrel
                refine ⟨u, rfl, ?_, hrel⟩
                have hc : w.cell? ⟨e.blk, off, none⟩ = some u := by
                  have := hrun w rfl
                  simp only [Go.loadCells, Go.loadCellsFrom, Sem.run_bind, add_none, Nat.add_zero, run_load] at this
                  cases hc : w.cell? ⟨e.blk, off, none⟩ with
                  | some y => rw [hc] at this; simp at this; rw [this]
                  | none =>
                    exfalso
                    unfold loadCells at hl
                    split at hl
                    · rename_i b' hb'
                      obtain ⟨e', cs, fr, he', hcs, hsz, hn, _, _, hget⟩ := hr.cells hb'
                      rw [he] at he'; simp only [Option.some.injEq] at he'; subst he'
                      obtain ⟨_, hg⟩ := Blk.load_spec b' 1 off _ hl
                      have h1 := hg 0 (by omega)
                      simp only [Nat.add_zero, List.getElem?_cons_zero] at h1
                      obtain ⟨_, v, _, hv, _⟩ := hget _ (Blk.get_lt h1)
                      rw [cell_of_blk hcs, hv] at hc
                      cases hc
                    · cases hl
                simp [Go.loadVar, isAgg_run hb, hc]
          · cases h
    | _ => simp [VRel] at hp
  · cases h

/-- storing into a variable -/
theorem storeVar_run [Base] (hr : Rel P ρ H w) {t : TypeId} {a v : AV} {H' : Heap} {p u : Value} (h : storeVar P t H a v = some H') (hp : VRel ρ a p) (hv : VRel ρ v u) :
    ∃ ad w', p = .pointer (some ad) ∧ (Go.storeVar t ad u).run P w = .ok () w' ∧ Rel P ρ H' w' ∧ Step none ρ H w ρ H' w' := by
  unfold storeVar at h
  split at h
  · rename_i id off
    cases p with
    | pointer q =>
      cases q with
      | none => simp [VRel] at hp
      | some ad =>
        simp only [VRel] at hp
        obtain ⟨e, he, rfl⟩ := hp
        simp only [Option.bind_eq_some_iff] at h
        obtain ⟨n, hn, h⟩ := h
        split at h
        · rename_i hc
          obtain ⟨hkn, hc⟩ := hc
          obtain ⟨w', hrun, h1, h2⟩ := storeCells_run hr h (cells_rel hkn hv) e he
          refine ⟨_, w', rfl, ?_, h1, h2⟩
          have hsz : u.cells.size = n := by rw [← cells_length hkn hv, hc]
          simp [Go.storeVar, sizeOf_run hn, hsz, hrun]
        · cases h
    | _ => simp [VRel] at hp
  · cases h

/-- a new row out of a list of cells -/
theorem newRow_run_b [Base] (hr : Rel P ρ H w) {at_ : Option Nat} {b : Blk} {cs : List AV} {us : List Value} {id : Nat} {H' : Heap} {extra : List Value} {sz : Nat}
    (h : H.alloc at_ (.cells b) = some (id, H')) (hbn : b.n = cs.length) (hbg : ∀ j, j < cs.length → b.get j = cs[j]?) (hat : ∀ i, at_ = some i → ρ i = none) (hu : VRels ρ cs us)
    (hg : b.g = true → sizeOf P b.t = some sz) :
    ∃ ρ', (Go.newRow b.t (us ++ extra).toArray).run P w = .ok ⟨w.heap.size, 0, none⟩ (push w (.cells (us ++ extra).toArray b.t)) ∧ ρ' id = some ⟨w.heap.size, (us ++ extra).length, sz⟩ ∧
      ρ.le ρ' ∧ Rel P ρ' H' (push w (.cells (us ++ extra).toArray b.t)) ∧ Step at_ ρ H w ρ' H' (push w (.cells (us ++ extra).toArray b.t)) := by
  have hl := VRels.length _ _ hu
  have ho : ORel P ρ ⟨w.heap.size, (us ++ extra).length, sz⟩ (.cells b) (some (.cells (us ++ extra).toArray b.t)) := by
    refine ⟨rfl, by simp, ?_, Or.inl rfl, fun h => hg h, fun k hk => ?_⟩
    · rw [hbn]; simp; omega
    · have hk : k < cs.length := by omega
      obtain ⟨v, h1, h2⟩ := VRels.get cs us k cs[k] hu (by simp)
      refine ⟨cs[k], v, by rw [hbg k hk]; simp, ?_, h2⟩
      simp only [List.getElem?_toArray]
      rw [List.getElem?_append_left (by omega)]
      exact h1
  obtain ⟨h1, h2, h3⟩ := hr.alloc h hat ho
  exact ⟨_, rfl, Ren.upd_same, h3, h1, h2⟩

theorem newRow_run [Base] (hr : Rel P ρ H w) {at_ : Option Nat} {t : TypeId} {g : Bool} {cs : List AV} {us : List Value} {id : Nat} {H' : Heap} {extra : List Value} {sz : Nat}
    (h : H.alloc at_ (.cells (.ofList t g cs)) = some (id, H')) (hat : ∀ i, at_ = some i → ρ i = none) (hu : VRels ρ cs us) (hg : g = true → sizeOf P t = some sz) :
    ∃ ρ', (Go.newRow t (us ++ extra).toArray).run P w = .ok ⟨w.heap.size, 0, none⟩ (push w (.cells (us ++ extra).toArray t)) ∧ ρ' id = some ⟨w.heap.size, (us ++ extra).length, sz⟩ ∧
      ρ.le ρ' ∧ Rel P ρ' H' (push w (.cells (us ++ extra).toArray t)) ∧ Step at_ ρ H w ρ' H' (push w (.cells (us ++ extra).toArray t)) :=
  newRow_run_b (b := .ofList t g cs) hr h rfl (fun j _ => Blk.get_ofList t g cs j) hat hu hg
end
end AE
