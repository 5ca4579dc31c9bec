/- The abstract evaluator: operations that read, and those that lay values. Conditions: none. -/
import Derived.Test.YtandggoanbdjkaaGreatDoorWAERel
import Derived.Laws.Tables
namespace AE
open Go

mutual
theorem ofVal_rel (ρ : Ren) : ∀ (v : Value) (x : AV), ofVal v = some x → VRel ρ x v
  | .bool b, x, h => by simp only [ofVal, Option.some.injEq] at h; subst h; simp [VRel]
  | .int k n, x, h => by simp only [ofVal, Option.some.injEq] at h; subst h; simp [VRel]
  | .float .., x, h => by simp [ofVal] at h
  | .complex .., x, h => by simp [ofVal] at h
  | .string s, x, h => by simp only [ofVal, Option.some.injEq] at h; subst h; simp [VRel]
  | .pointer none, x, h => by simp only [ofVal, Option.some.injEq] at h; subst h; simp [VRel]
  | .pointer (some _), x, h => by simp [ofVal] at h
  | .slice none 0 0, x, h => by simp only [ofVal, Option.some.injEq] at h; subst h; simp [VRel]
  | .slice none 0 (_ + 1), x, h => by simp [ofVal] at h
  | .slice none (_ + 1) _, x, h => by simp [ofVal] at h
  | .slice (some _) _ _, x, h => by simp [ofVal] at h
  | .map none, x, h => by simp only [ofVal, Option.some.injEq] at h; subst h; simp [VRel]
  | .map (some _), x, h => by simp [ofVal] at h
  | .chan _, x, h => by simp [ofVal] at h
  | .func .., x, h => by simp [ofVal] at h
  | .nilFunc, x, h => by simp only [ofVal, Option.some.injEq] at h; subst h; simp [VRel]
  | .iface .., x, h => by simp [ofVal] at h
  | .nilIface, x, h => by simp only [ofVal, Option.some.injEq] at h; subst h; simp [VRel]
  | .agg ⟨cs⟩, x, h => by
    simp only [ofVal, Option.map_eq_some_iff] at h
    obtain ⟨ys, hy, rfl⟩ := h
    simp only [VRel]; exact ofVals_rel ρ cs ys hy
  | .tuple ⟨cs⟩, x, h => by
    simp only [ofVal, Option.map_eq_some_iff] at h
    obtain ⟨ys, hy, rfl⟩ := h
    simp only [VRel]; exact ofVals_rel ρ cs ys hy
theorem ofVals_rel (ρ : Ren) : ∀ (vs : List Value) (xs : List AV), ofVals vs = some xs → VRels ρ xs vs
  | [], xs, h => by simp only [ofVals, Option.some.injEq] at h; subst h; simp [VRels]
  | v :: vs, xs, h => by
    simp only [ofVals, Option.bind_eq_some_iff, Option.some.injEq] at h
    obtain ⟨x, hx, ys, hy, rfl⟩ := h
    simp only [VRels]; exact ⟨ofVal_rel ρ v x hx, ofVals_rel ρ vs ys hy⟩
end

theorem cells_rel {ρ : Ren} {x : AV} {u : Value} (hk : x.known = true) (h : VRel ρ x u) : VRels ρ x.cells u.cells.toList := by
  cases x <;> cases u <;> first
    | (simp [AV.known] at hk; done)
    | (simp only [VRel] at h; done)
    | (simp only [AV.cells, Value.cells, VRels, List.toList_toArray, and_true]; exact h)
    | (simp only [VRel] at h; simpa [AV.cells, Value.cells] using h)

theorem cells_length {ρ : Ren} {x : AV} {u : Value} (hk : x.known = true) (h : VRel ρ x u) : x.cells.length = u.cells.size := by
  have := VRels.length _ _ (cells_rel hk h); simpa using this

theorem ofVal_known : ∀ (v : Value) (x : AV), ofVal v = some x → x.known = true := by
  intro v x h
  cases v with
  | pointer p => cases p <;> simp [ofVal] at h; subst h; rfl
  | slice p l c =>
    cases p with
    | some p => simp [ofVal] at h
    | none => cases l <;> cases c <;> simp [ofVal] at h; subst h; rfl
  | map m => cases m <;> simp [ofVal] at h; subst h; rfl
  | agg cs =>
    obtain ⟨cs⟩ := cs
    simp only [ofVal, Option.map_eq_some_iff] at h
    obtain ⟨ys, _, rfl⟩ := h; rfl
  | tuple cs =>
    obtain ⟨cs⟩ := cs
    simp only [ofVal, Option.map_eq_some_iff] at h
    obtain ⟨ys, _, rfl⟩ := h; rfl
  | _ => first
    | (simp only [ofVal, Option.some.injEq] at h; subst h; rfl)
    | (simp [ofVal] at h; done)

section
variable {P : Program} {ρ : Ren} {H : Heap} {w : World}

theorem isAgg_run {t : TypeId} {b : Bool} (h : isAgg P t = some b) : (Go.isAgg t).run P w = .ok b w := by
  unfold isAgg at h
  cases hu : P.underlying t with
  | none => rw [hu] at h; simp at h
  | some d => rw [hu] at h; cases d <;> simp at h <;> subst h <;> simp [Go.isAgg, run_underlying hu]

theorem info_of_size {t : TypeId} {n : Nat} (h : sizeOf P t = some n) : ∃ i, P.info? t = some i ∧ i.size = n := by
  unfold sizeOf at h; simpa using h

theorem sizeOf_run {t : TypeId} {n : Nat} (h : sizeOf P t = some n) : (Go.sizeOf t).run P w = .ok n w := by
  obtain ⟨i, hi, rfl⟩ := info_of_size h
  simp [Go.sizeOf, typeInfo, hi]

theorem zero_run {t : TypeId} {z : AV} (h : zeroOf P t = some z) : ∃ u, (zeroValue t).run P w = .ok u w ∧ VRel ρ z u := by
  unfold zeroOf at h
  simp only [Option.bind_eq_some_iff] at h
  obtain ⟨i, hi, u, hu, hz⟩ := h
  exact ⟨u, by simp [zeroValue, typeInfo, hi, hu], ofVal_rel ρ u z hz⟩

/-- loading a variable -/
theorem loadVar_run [Base] (hr : Rel P ρ H w) {t : TypeId} {a v : AV} {p : Value} (h : loadVar P t H a = some v) (hp : VRel ρ a p) :
    ∃ ad u, p = .pointer (some ad) ∧ (Go.loadVar t ad).run P w = .ok u w ∧ VRel ρ v u := by
  unfold loadVar at h
  split at h
  · rename_i id off
    cases p with
    | pointer q =>
      cases q with
      | none => simp [VRel] at hp
      | some ad =>
        simp only [VRel] at hp
        obtain ⟨e, he, rfl⟩ := hp
        refine ⟨⟨e.blk, off, none⟩, ?_⟩
        simp only [Option.bind_eq_some_iff] at h
        obtain ⟨b, hb, h⟩ := h
        cases b with
        | true =>
          simp only [Option.bind_eq_some_iff, Option.map_eq_some_iff] at h
          obtain ⟨n, hn, l, hl, rfl⟩ := h
          obtain ⟨us, hrun, hrel, _⟩ := loadCells_run hr hl e he
          exact ⟨.agg us.toArray, rfl, by simp [Go.loadVar, isAgg_run hb, sizeOf_run hn, hrun w rfl], by simpa [VRel] using hrel⟩
        | false =>
          simp only [Option.bind_eq_some_iff] at h
          obtain ⟨l, hl, h⟩ := h
          obtain ⟨us, hrun, hrel, hlen⟩ := loadCells_run hr hl e he
          split at h
          · rename_i x
            simp only [Option.some.injEq] at h
            subst h
            cases us with
            | nil => simp at hlen
            | cons u us =>
              cases us with
              | cons _ _ => simp at hlen
              | nil =>
                simp only [VRels, and_true] at hrel
                refine ⟨u, rfl, ?_, hrel⟩
                have hc : w.cell? ⟨e.blk, off, none⟩ = some u := by
                  have := hrun w rfl
                  simp only [Go.loadCells, Go.loadCellsFrom, Sem.run_bind, add_none, Nat.add_zero, run_load] at this
                  cases hc : w.cell? ⟨e.blk, off, none⟩ with
                  | some y => rw [hc] at this; simp at this; rw [this]
                  | none =>
                    exfalso
                    unfold loadCells at hl
                    split at hl
                    · rename_i b' hb'
                      obtain ⟨e', cs, fr, he', hcs, hsz, hn, _, _, hget⟩ := hr.cells hb'
                      rw [he] at he'; simp only [Option.some.injEq] at he'; subst he'
                      obtain ⟨_, hg⟩ := Blk.load_spec b' 1 off _ hl
                      have h1 := hg 0 (by omega)
                      simp only [Nat.add_zero, List.getElem?_cons_zero] at h1
                      obtain ⟨_, v, _, hv, _⟩ := hget _ (Blk.get_lt h1)
                      rw [cell_of_blk hcs, hv] at hc
                      cases hc
                    · cases hl
                simp [Go.loadVar, isAgg_run hb, hc]
          · cases h
    | _ => simp [VRel] at hp
  · cases h

/-- storing into a variable -/
theorem storeVar_run [Base] (hr : Rel P ρ H w) {t : TypeId} {a v : AV} {H' : Heap} {p u : Value} (h : storeVar P t H a v = some H') (hp : VRel ρ a p) (hv : VRel ρ v u) :
    ∃ ad w', p = .pointer (some ad) ∧ (Go.storeVar t ad u).run P w = .ok () w' ∧ Rel P ρ H' w' ∧ Step none ρ H w ρ H' w' := by
  unfold storeVar at h
  split at h
  · rename_i id off
    cases p with
    | pointer q =>
      cases q with
      | none => simp [VRel] at hp
      | some ad =>
        simp only [VRel] at hp
        obtain ⟨e, he, rfl⟩ := hp
        simp only [Option.bind_eq_some_iff] at h
        obtain ⟨n, hn, h⟩ := h
        split at h
        · rename_i hc
          obtain ⟨hkn, hc⟩ := hc
          obtain ⟨w', hrun, h1, h2⟩ := storeCells_run hr h (cells_rel hkn hv) e he
          refine ⟨_, w', rfl, ?_, h1, h2⟩
          have hsz : u.cells.size = n := by rw [← cells_length hkn hv, hc]
          simp [Go.storeVar, sizeOf_run hn, hsz, hrun]
        · cases h
    | _ => simp [VRel] at hp
  · cases h

/-- a new row out of a list of cells -/
theorem newRow_run_b [Base] (hr : Rel P ρ H w) {at_ : Option Nat} {b : Blk} {cs : List AV} {us : List Value} {id : Nat} {H' : Heap} {extra : List Value} {sz : Nat}
    (h : H.alloc at_ (.cells b) = some (id, H')) (hbn : b.n = cs.length) (hbg : ∀ j, j < cs.length → b.get j = cs[j]?) (hat : ∀ i, at_ = some i → ρ i = none) (hu : VRels ρ cs us)
    (hg : b.g = true → sizeOf P b.t = some sz) :
    ∃ ρ', (Go.newRow b.t (us ++ extra).toArray).run P w = .ok ⟨w.heap.size, 0, none⟩ (push w (.cells (us ++ extra).toArray b.t)) ∧ ρ' id = some ⟨w.heap.size, (us ++ extra).length, sz⟩ ∧
      ρ.le ρ' ∧ Rel P ρ' H' (push w (.cells (us ++ extra).toArray b.t)) ∧ Step at_ ρ H w ρ' H' (push w (.cells (us ++ extra).toArray b.t)) := by
  have hl := VRels.length _ _ hu
  have ho : ORel P ρ ⟨w.heap.size, (us ++ extra).length, sz⟩ (.cells b) (some (.cells (us ++ extra).toArray b.t)) := by
    refine ⟨rfl, by simp, ?_, Or.inl rfl, fun h => hg h, fun k hk => ?_⟩
    · rw [hbn]; simp; omega
    · have hk : k < cs.length := by omega
      obtain ⟨v, h1, h2⟩ := VRels.get cs us k cs[k] hu (by simp)
      refine ⟨cs[k], v, by rw [hbg k hk]; simp, ?_, h2⟩
      simp only [List.getElem?_toArray]
      rw [List.getElem?_append_left (by omega)]
      exact h1
  obtain ⟨h1, h2, h3⟩ := hr.alloc h hat ho
  exact ⟨_, rfl, Ren.upd_same, h3, h1, h2⟩

theorem newRow_run [Base] (hr : Rel P ρ H w) {at_ : Option Nat} {t : TypeId} {g : Bool} {cs : List AV} {us : List Value} {id : Nat} {H' : Heap} {extra : List Value} {sz : Nat}
    (h : H.alloc at_ (.cells (.ofList t g cs)) = some (id, H')) (hat : ∀ i, at_ = some i → ρ i = none) (hu : VRels ρ cs us) (hg : g = true → sizeOf P t = some sz) :
    ∃ ρ', (Go.newRow t (us ++ extra).toArray).run P w = .ok ⟨w.heap.size, 0, none⟩ (push w (.cells (us ++ extra).toArray t)) ∧ ρ' id = some ⟨w.heap.size, (us ++ extra).length, sz⟩ ∧
      ρ.le ρ' ∧ Rel P ρ' H' (push w (.cells (us ++ extra).toArray t)) ∧ Step at_ ρ H w ρ' H' (push w (.cells (us ++ extra).toArray t)) :=
  newRow_run_b (b := .ofList t g cs) hr h rfl (fun j _ => Blk.get_ofList t g cs j) hat hu hg
end
end AE
/- The abstract evaluator: literals, new rows, addresses, slices. Conditions: none. -/
namespace AE
open Go

theorem foldl_cells : ∀ (l : List Value) (k off : Nat) (cs : Array Value),
    ((l.zipIdx k).foldl (fun cs (p : Value × Nat) => cs.setIfInBounds (off + p.2) p.1) cs).size = cs.size ∧
    ∀ j, ((l.zipIdx k).foldl (fun cs (p : Value × Nat) => cs.setIfInBounds (off + p.2) p.1) cs)[j]? =
      if off + k ≤ j ∧ j < off + k + l.length ∧ j < cs.size then l[j - (off + k)]? else cs[j]? := by
  intro l
  induction l with
  | nil => intro k off cs; exact ⟨rfl, fun j => by rw [if_neg (by simp only [List.length_nil]; omega)]; rfl⟩
  | cons v l ih =>
    intro k off cs
    simp only [List.zipIdx_cons, List.foldl_cons]
    obtain ⟨h1, h2⟩ := ih (k + 1) off (cs.setIfInBounds (off + k) v)
    refine ⟨by rw [h1]; simp, fun j => ?_⟩
    rw [h2]
    simp only [Array.size_setIfInBounds, List.length_cons]
    by_cases c1 : off + (k + 1) ≤ j ∧ j < off + (k + 1) + l.length ∧ j < cs.size
    · rw [if_pos c1, if_pos (by omega)]
      have : j - (off + k) = (j - (off + (k + 1))) + 1 := by omega
      rw [this, List.getElem?_cons_succ]
    · rw [if_neg c1, Array.getElem?_setIfInBounds]
      by_cases c2 : off + k = j
      · subst c2
        rw [if_pos rfl]
        by_cases c3 : off + k < cs.size
        · rw [if_pos c3, if_pos (by omega)]; simp
        · rw [if_neg c3, if_neg (by omega)]; rw [Array.getElem?_eq_none (by omega)]
      · rw [if_neg c2, if_neg (by omega)]

theorem putAt_get {cs : List AV} {off : Nat} {vs cs' : List AV} (h : putAt cs off vs = some cs') :
    off + vs.length ≤ cs.length ∧ cs'.length = cs.length ∧ ∀ j, cs'[j]? = if off ≤ j ∧ j < off + vs.length then vs[j - off]? else cs[j]? := by
  unfold putAt at h
  split at h
  · rename_i hl
    simp only [Option.some.injEq] at h
    subst h
    refine ⟨hl, by simp; omega, fun j => ?_⟩
    by_cases c1 : j < off
    · rw [if_neg (by omega), List.getElem?_append_left (by simp; omega)]
      simp [c1]
    · rw [List.getElem?_append_right (by simp; omega)]
      simp only [List.length_take]
      have : min off cs.length = off := by omega
      rw [this]
      by_cases c2 : j < off + vs.length
      · rw [if_pos (by omega), List.getElem?_append_left (by omega)]
      · rw [if_neg (by omega), List.getElem?_append_right (by omega), List.getElem?_drop]
        congr 1; omega
  · cases h

/-- lists of parts -/
def PRel (ρ : Ren) : List (Nat × AV) → List (Nat × Value) → Prop
  | [], [] => True
  | (i, x) :: xs, (j, v) :: vs => i = j ∧ VRel ρ x v ∧ PRel ρ xs vs
  | _, _ => False

theorem fill_rel {ρ : Ren} {place : Nat → Option (Nat × Nat)} : ∀ (ps : List (Nat × AV)) (qs : List (Nat × Value)) (cs cs' : List AV) (us : Array Value), PRel ρ ps qs → VRels ρ cs us.toList →
    fill place cs ps = some cs' → ∃ us', Instr.fill place us qs = some us' ∧ VRels ρ cs' us'.toList
  | [], [], cs, cs', us, _, hc, h => by simp only [fill, Option.some.injEq] at h; subst h; exact ⟨us, rfl, hc⟩
  | [], _ :: _, _, _, _, h, _, _ => by simp [PRel] at h
  | _ :: _, [], _, _, _, h, _, _ => by simp [PRel] at h
  | (i, x) :: ps, (j, v) :: qs, cs, cs', us, hp, hc, h => by
    simp only [PRel] at hp
    obtain ⟨rfl, hx, hps⟩ := hp
    simp only [fill, Option.bind_eq_some_iff] at h
    obtain ⟨⟨off, size⟩, hpl, h⟩ := h
    simp only at h
    split at h
    · rename_i hsz
      obtain ⟨hkn, hsz⟩ := hsz
      simp only [Option.bind_eq_some_iff] at h
      obtain ⟨cs1, h1, h2⟩ := h
      obtain ⟨g1, g2, g3⟩ := putAt_get h1
      have hlen := VRels.length _ _ hc
      have hcl := cells_length hkn hx
      simp only [Array.length_toList] at hlen
      have hv := cells_rel hkn hx
      obtain ⟨f1, f2⟩ := foldl_cells v.cells.toList 0 off us
      have hfold : (v.cells.zipIdx.foldl (fun cs (c, j) => cs.setIfInBounds (off + j) c) us) = ((v.cells.toList.zipIdx 0).foldl (fun cs (p : Value × Nat) => cs.setIfInBounds (off + p.2) p.1) us) := by
        rw [← Array.foldl_toList]; simp
      have hrel1 : VRels ρ cs1 (v.cells.zipIdx.foldl (fun cs (c, j) => cs.setIfInBounds (off + j) c) us).toList := by
        rw [hfold]
        apply VRels.of_get
        · simp only [Array.length_toList]; omega
        · intro k y hy
          rw [g3] at hy
          simp only [Array.getElem?_toList, f2, Nat.add_zero, Array.length_toList]
          by_cases c : off ≤ k ∧ k < off + x.cells.length
          · rw [if_pos c] at hy
            rw [if_pos (by omega)]
            simpa using VRels.get _ _ _ _ hv hy
          · rw [if_neg c] at hy
            rw [if_neg (by omega)]
            have := VRels.get _ _ _ _ hc hy
            simpa using this
      obtain ⟨us', hf, hr⟩ := fill_rel ps qs cs1 cs' _ hps hrel1 h2
      refine ⟨us', ?_, hr⟩
      simp only [Instr.fill, hpl]
      rw [if_neg ?_]
      · exact hf
      · simp only [Bool.or_eq_true, decide_eq_true_eq, not_or]
        constructor
        · simp; omega
        · omega
    · cases h

section
variable {P : Program} {ρ : Ren} {H : Heap} {w : World}

theorem structPlaces {fs : List Field} (h : ∀ f ∈ fs, (sizeOf P f.type).isSome = true) :
    fs.mapM (fun f => (P.info? f.type).map fun i => (f.offset, i.size)) = some (fs.map fun f => (f.offset, (sizeOf P f.type).getD 0)) := by
  induction fs with
  | nil => rfl
  | cons f fs ih =>
    simp only [List.mapM_cons, Option.bind_eq_bind, Option.pure_def]
    have h0 := h f (List.mem_cons_self ..)
    obtain ⟨n, hn⟩ := Option.isSome_iff_exists.1 h0
    obtain ⟨i, hi, rfl⟩ := info_of_size hn
    rw [ih fun g hg => h g (List.mem_cons_of_mem _ hg)]
    simp [hi, hn]

theorem build_run {t : TypeId} {ps : List (Nat × AV)} {qs : Array (Nat × Value)} {v : AV} (hp : PRel ρ ps qs.toList) (h : build P t ps = some v) :
    ∃ u, (Instr.build t qs).run P w = .ok u w ∧ VRel ρ v u := by
  unfold build at h
  simp only [Option.bind_eq_some_iff] at h
  obtain ⟨z, hz, d, hd, h⟩ := h
  unfold zeroOf at hz
  simp only [Option.bind_eq_some_iff] at hz
  obtain ⟨it, hit, zv, hzv, hz⟩ := hz
  have hzc : VRels ρ z.cells zv.cells.toList := cells_rel (ofVal_known zv z hz) (ofVal_rel ρ zv z hz)
  cases d <;> simp only at h <;> try (cases h; done)
  case array n e =>
    simp only [Option.bind_eq_some_iff, Option.map_eq_some_iff] at h
    obtain ⟨k, hk, cs, hcs, rfl⟩ := h
    obtain ⟨ie, hie, rfl⟩ := info_of_size hk
    obtain ⟨us, hus, hr⟩ := fill_rel ps qs.toList _ _ _ hp hzc hcs
    refine ⟨.agg us, run_build w t qs us ?_, by simpa [VRel] using hr⟩
    simp [Program.built, hit, hd, hzv, hie, hus]
  case struct fs =>
    split at h
    · rename_i hall
      simp only [Option.map_eq_some_iff] at h
      obtain ⟨cs, hcs, rfl⟩ := h
      have hall' : ∀ f ∈ fs.toList, (sizeOf P f.type).isSome = true := by
        intro f hf
        rw [Array.all_eq_true'] at hall
        exact hall f (by simpa using hf)
      have hpl : structPlace P fs = fun i => (fs.toList.map fun f => (f.offset, (sizeOf P f.type).getD 0)).toArray[i]? := by
        funext i
        unfold structPlace
        simp only [List.getElem?_toArray, List.getElem?_map, Array.getElem?_toList]
        cases hi : fs[i]? with
        | none => rfl
        | some f =>
          have hf : f ∈ fs.toList := by
            rw [← Array.getElem?_toList] at hi
            exact List.mem_of_getElem? hi
          obtain ⟨n, hn⟩ := Option.isSome_iff_exists.1 (hall' f hf)
          simp [hn]
      rw [hpl] at hcs
      obtain ⟨us, hus, hr⟩ := fill_rel ps qs.toList _ _ _ hp hzc hcs
      refine ⟨.agg us, run_build w t qs us ?_, by simpa [VRel] using hr⟩
      simp only [Program.built, hit, hd, hzv, structPlaces hall']
      exact hus
    · cases h

theorem rep_length : ∀ (c : Nat) (zs : List AV), (rep c zs).length = c * zs.length
  | 0, zs => by simp [rep]
  | c + 1, zs => by simp [rep, rep_length c zs, Nat.add_mul]; omega

theorem rep_get : ∀ (c : Nat) (zs : List AV) (j : Nat), j < c * zs.length → (rep c zs)[j]? = zs[j % zs.length]?
  | 0, zs, j, h => by simp at h
  | c + 1, zs, j, h => by
    have hz : 0 < zs.length := by
      rcases Nat.eq_zero_or_pos zs.length with h0 | h0
      · rw [h0] at h; simp at h
      · exact h0
    simp only [rep]
    by_cases c1 : j < zs.length
    · rw [List.getElem?_append_left c1, Nat.mod_eq_of_lt c1]
    · rw [List.getElem?_append_right (by omega), rep_get c zs (j - zs.length) (by have := Nat.succ_mul c zs.length; simp only [Nat.succ_eq_add_one] at this; omega)]
      congr 1
      exact (Nat.mod_eq_sub_mod (by omega)).symm

/-- the model's rows of zeros -/
theorem zeros_rel {zs : List AV} {zv : Array Value} (h : VRels ρ zs zv.toList) (n : Nat) (c : Nat) (hn : n = c * zs.length) :
    VRels ρ (rep c zs) ((Array.range n).map (zv[· % zv.size]!)).toList := by
  have hl := VRels.length _ _ h
  simp only [Array.length_toList] at hl
  apply VRels.of_get
  · simp [rep_length, hn]
  · intro j x hx
    have hj : j < c * zs.length := by
      rcases Nat.lt_or_ge j (c * zs.length) with h1 | h1
      · exact h1
      · rw [List.getElem?_eq_none (by rw [rep_length]; exact h1)] at hx; cases hx
    rw [rep_get c zs j hj] at hx
    obtain ⟨v, hv, hr⟩ := VRels.get _ _ _ _ h hx
    refine ⟨v, ?_, hr⟩
    have hlt : j % zv.size < zv.size := by
      rw [← hl]
      apply Nat.mod_lt
      rcases Nat.eq_zero_or_pos zs.length with h0 | h0
      · rw [h0] at hj; simp at hj
      · exact h0
    simp only [Array.toList_map, Array.toList_range, List.getElem?_map, List.getElem?_range (show j < n by omega), Option.map_some]
    rw [hl] at hv
    simp only [Array.getElem?_toList] at hv
    rw [getElem!_pos zv (j % zv.size) hlt]
    rw [Array.getElem?_eq_getElem hlt] at hv
    exact hv

theorem zeroCells_of {e : TypeId} {z : AV} (h : zeroOf P e = some z) : ∃ it zv, P.info? e = some it ∧ it.zero = some zv ∧ VRel ρ z zv ∧ VRels ρ z.cells zv.cells.toList := by
  unfold zeroOf at h
  simp only [Option.bind_eq_some_iff] at h
  obtain ⟨it, hit, zv, hzv, hz⟩ := h
  exact ⟨it, zv, hit, hzv, ofVal_rel ρ zv z hz, cells_rel (ofVal_known zv z hz) (ofVal_rel ρ zv z hz)⟩

/-- how a step ends that makes something -/
def Made [Base] (P : Program) (at_ : Option Nat) (ρ : Ren) (H : Heap) (w : World) (s : Sem Value) (v : AV) (H' : Heap) : Prop :=
  ∃ ρ' w' u, s.run P w = .ok u w' ∧ VRel ρ' v u ∧ Rel P ρ' H' w' ∧ Step at_ ρ H w ρ' H' w'

theorem alloc_run [Base] (hr : Rel P ρ H w) {at_ : Option Nat} {e : TypeId} {z : AV} {id : Nat} {H' : Heap} (hz : zeroOf P e = some z) (hat : ∀ i, at_ = some i → ρ i = none)
    (h : H.alloc at_ (.cells (.zeros e 1 z.cells)) = some (id, H')) : Made P at_ ρ H w (Instr.alloc e true (.tuple #[])) (.ptr (some (id, 0))) H' := by
  obtain ⟨it, zv, hit, hzv, hzr, hzc⟩ := zeroCells_of (ρ := ρ) hz
  have hl := VRels.length _ _ hzc
  simp only [Array.length_toList] at hl
  have ho : ORel P ρ ⟨w.heap.size, zv.cells.size, 0⟩ (.cells (.zeros e 1 z.cells)) (some (.cells zv.cells e)) := by
    refine ⟨rfl, rfl, ?_, Or.inl rfl, fun h => (by cases h), fun k hk => ?_⟩
    · show 1 * z.cells.length ≤ _; omega
    · have hk : k < 1 * z.cells.length := hk
      have hk2 : k < z.cells.length := by omega
      obtain ⟨v, h1, h2⟩ := VRels.get _ _ k z.cells[k] hzc (by simp)
      refine ⟨z.cells[k], v, ?_, by simpa using h1, h2⟩
      rw [Blk.get_zeros, if_pos hk, Nat.mod_eq_of_lt hk2]; simp
  obtain ⟨h1, h2, h3⟩ := hr.alloc h hat ho
  refine ⟨_, _, .pointer (some ⟨w.heap.size, 0, none⟩), ?_, ?_, h1, h2⟩
  · simp [Instr.alloc, zeroValue, typeInfo, hit, hzv, Go.newVar, Go.newRow, push]
  · simp only [VRel]; exact ⟨_, Ren.upd_same, rfl⟩

theorem box_run [Base] (hr : Rel P ρ H w) {at_ : Option Nat} {e : TypeId} {v : AV} {u : Value} {id : Nat} {H' : Heap} (hkn : v.known = true) (hv : VRel ρ v u) (hat : ∀ i, at_ = some i → ρ i = none)
    (h : H.alloc at_ (.cells (.ofList e false v.cells)) = some (id, H')) : Made P at_ ρ H w (Instr.box e u) (.ptr (some (id, 0))) H' := by
  obtain ⟨ρ', h1, h2, h3, h4, h5⟩ := newRow_run (extra := []) (sz := 0) hr h hat (cells_rel hkn hv) (by simp)
  simp only [List.append_nil, Array.toArray_toList] at h1 h2 h4 h5
  refine ⟨ρ', _, .pointer (some ⟨w.heap.size, 0, none⟩), ?_, ?_, h4, h5⟩
  · simp [Instr.box, Go.newVar, h1]
  · simp only [VRel]; exact ⟨_, h2, rfl⟩

theorem buildSlice_run [Base] (hr : Rel P ρ H w) {at_ : Option Nat} {t : TypeId} {n : Nat} {ps : List (Nat × AV)} {qs : Array (Nat × Value)} {v : AV} {H' : Heap} (hp : PRel ρ ps qs.toList)
    (hat : ∀ i, at_ = some i → ρ i = none) (h : buildSlice P t n ps at_ H = some (v, H')) : Made P at_ ρ H w (Instr.buildSlice t n qs) v H' := by
  unfold buildSlice at h
  split at h
  · rename_i e hu
    simp only [Option.bind_eq_some_iff] at h
    obtain ⟨k, hk, h⟩ := h
    split at h
    · rename_i hsmall
      simp only [Option.bind_eq_some_iff] at h
      obtain ⟨z, hz, h⟩ := h
      split at h
      · rename_i hzl
        simp only [Option.bind_eq_some_iff] at h
        obtain ⟨cs, hcs, ⟨id, H1⟩, ha, h⟩ := h
        simp only [Option.some.injEq, Prod.mk.injEq] at h
        obtain ⟨rfl, rfl⟩ := h
        obtain ⟨it, zv, hit, hzv, hzr, hzc⟩ := zeroCells_of (ρ := ρ) hz
        obtain ⟨ie, hie, hies⟩ := info_of_size hk
        rw [hit] at hie
        simp only [Option.some.injEq] at hie
        subst hie
        have hzl2 := VRels.length _ _ hzc
        simp only [Array.length_toList] at hzl2
        -- the model's zero row
        have hrow : VRels ρ (rep n z.cells) ((Array.range (n * k)).map ((if n * k = 0 then (#[] : Array Value) else zv.cells)[· % (if n * k = 0 then (#[] : Array Value) else zv.cells).size]!)).toList := by
          by_cases c : n * k = 0
          · have : rep n z.cells = [] := by
              apply List.eq_nil_of_length_eq_zero; rw [rep_length, hzl, c]
            rw [this]; simp [c, VRels]
          · simp only [if_neg c]
            exact zeros_rel hzc (n * k) n (by rw [hzl])
        obtain ⟨us, hus, hur⟩ := fill_rel ps qs.toList _ _ _ hp hrow hcs
        obtain ⟨ρ', h1, h2, h3, h4, h5⟩ := newRow_run (extra := []) (sz := 0) hr ha hat hur (by simp)
        simp only [List.append_nil, Array.toArray_toList] at h1 h2 h4 h5
        refine ⟨ρ', _, .slice (some ⟨w.heap.size, 0, none⟩) n n, ?_, ?_, h4, h5⟩
        · have hbig : ¬ (n * k > 2 ^ 24) := by omega
          simp only [Instr.buildSlice, Sem.run_bind, run_underlying hu, Result.andThen_ok, sizeOf_run hk, hbig, if_false]
          by_cases c : n * k = 0
          · simp only [c, if_true] at hus ⊢
            simp only [Sem.run_pure, Result.andThen_ok, Sem.run_bind]
            rw [hus]
            simp [h1]
          · simp only [c, if_false] at hus ⊢
            simp only [zeroValue, typeInfo, Sem.run_bind, run_program, Result.andThen_ok, hit, hzv, Sem.run_pure]
            rw [hus]
            simp [h1]
        · simp only [VRel]; exact ⟨trivial, Nat.le_refl _, _, h2, rfl, Nat.le_refl _, by simp⟩
      · cases h
    · cases h
  · cases h
end
end AE

/- The abstract evaluator: slices, addresses, numbers. Conditions: none. -/
namespace AE
open Go

section
variable {P : Program} {ρ : Ren} {H : Heap} {w : World}

theorem bytesOf_info {t : TypeId} {n : Nat} (h : bytesOf P t = some n) : ∃ i, P.info? t = some i ∧ i.bytes = n := by
  unfold bytesOf at h; simpa using h

theorem int_rel {k : IntKind} {n : Int} {v : Value} (h : VRel ρ (.int k n) v) : v = .int k n := by
  cases v <;> simp_all [VRel]

theorem str_rel {s : ByteArray} {v : Value} (h : VRel ρ (.str s) v) : v = .string s := by
  cases v <;> simp_all [VRel]

theorem bool_rel {b : Bool} {v : Value} (h : VRel ρ (.bool b) v) : v = .bool b := by
  cases v <;> simp_all [VRel]

theorem wrap_id64 (n : Int) (h0 : 0 ≤ n) (h : n ≤ 1099511627776) : IntKind.i64.wrap n = n := by
  unfold IntKind.wrap IntKind.bits IntKind.signed
  simp only [Bool.true_and]
  have e : n % (2 ^ 64 : Int) = n := Int.emod_eq_of_lt h0 (by omega)
  rw [e, if_neg (by simp; omega)]

theorem makeSlice_run [Base] (hr : Rel P ρ H w) {at_ : Option Nat} {t : TypeId} {l c v : AV} {lv cv : Value} {H' : Heap} (hl : VRel ρ l lv) (hc : VRel ρ c cv)
    (hat : ∀ i, at_ = some i → ρ i = none) (h : makeSlice P t l c at_ H = some (v, H')) : Made P at_ ρ H w (Instr.makeSlice t lv cv) v H' := by
  unfold makeSlice at h
  split at h
  · rename_i e kl l kc c hu
    rw [int_rel hl, int_rel hc]
    simp only [Option.bind_eq_some_iff] at h
    obtain ⟨n, hn, by_, hby, h⟩ := h
    split at h
    · rename_i hok
      obtain ⟨h0, hlc, hcb, hbb⟩ := hok
      simp only [Option.bind_eq_some_iff] at h
      obtain ⟨z, hz, h⟩ := h
      split at h
      · rename_i hzl
        simp only [Option.bind_eq_some_iff] at h
        obtain ⟨⟨id, H1⟩, ha, h⟩ := h
        simp only [Option.some.injEq, Prod.mk.injEq] at h
        obtain ⟨rfl, rfl⟩ := h
        obtain ⟨it, zv, hit, hzv, hzr, hzc⟩ := zeroCells_of (ρ := ρ) hz
        obtain ⟨ie, hie, hies⟩ := info_of_size hn
        obtain ⟨ie2, hie2, hieb⟩ := bytesOf_info hby
        rw [hit] at hie hie2
        simp only [Option.some.injEq] at hie hie2
        subst hie hie2
        have hzl2 := VRels.length _ _ hzc
        simp only [Array.length_toList] at hzl2
        have hrow : VRels ρ (rep c.toNat z.cells) ((Array.range (c.toNat * n)).map ((if c.toNat * n = 0 then (#[] : Array Value) else zv.cells)[· % (if c.toNat * n = 0 then (#[] : Array Value) else zv.cells).size]!)).toList := by
          by_cases q : c.toNat * n = 0
          · have : rep c.toNat z.cells = [] := by
              apply List.eq_nil_of_length_eq_zero; rw [rep_length, hzl, q]
            rw [this]; simp [q, VRels]
          · simp only [if_neg q]
            exact zeros_rel hzc (c.toNat * n) c.toNat (by rw [hzl])
        have hlen := VRels.length _ _ hrow
        rw [rep_length] at hlen
        have ho : ORel P ρ ⟨w.heap.size, ((Array.range (c.toNat * n)).map ((if c.toNat * n = 0 then (#[] : Array Value) else zv.cells)[· % (if c.toNat * n = 0 then (#[] : Array Value) else zv.cells).size]!)).size, 0⟩
            (.cells (.zeros e c.toNat z.cells)) (some (.cells ((Array.range (c.toNat * n)).map ((if c.toNat * n = 0 then (#[] : Array Value) else zv.cells)[· % (if c.toNat * n = 0 then (#[] : Array Value) else zv.cells).size]!)) e)) := by
          refine ⟨rfl, rfl, ?_, Or.inl rfl, fun h => (by cases h), fun k hk => ?_⟩
          · show c.toNat * z.cells.length ≤ _
            simp [hzl]
          · have hk : k < c.toNat * z.cells.length := hk
            have hz0 : 0 < z.cells.length := by
              rcases Nat.eq_zero_or_pos z.cells.length with q | q
              · rw [q] at hk; simp at hk
              · exact q
            have hm : k % z.cells.length < z.cells.length := Nat.mod_lt _ hz0
            have hg : (rep c.toNat z.cells)[k]? = some z.cells[k % z.cells.length] := by rw [rep_get _ _ _ hk]; simp
            obtain ⟨u, h1, h2⟩ := VRels.get _ _ _ _ hrow hg
            refine ⟨_, u, ?_, by rw [← Array.getElem?_toList]; exact h1, h2⟩
            rw [Blk.get_zeros, if_pos hk]; simp
        obtain ⟨h1, h2, h3⟩ := hr.alloc ha hat ho
        refine ⟨_, _, .slice (some ⟨w.heap.size, 0, none⟩) l.toNat c.toNat, ?_, ?_, h1, h2⟩
        · have hwl : IntKind.i64.wrap l = l := wrap_id64 l h0 (by omega)
          have hwc : IntKind.i64.wrap c = c := wrap_id64 c (by omega) hcb
          have hc0 : ¬ c < 0 := by omega
          have hl0 : ¬ l < 0 := by omega
          have hgt : ¬ l > c := by omega
          have hbig : ¬ ((it.bytes : Int) * c > 2 ^ 48) := by rw [hieb]; omega
          have hbig2 : (it.bytes : Int) * c ≤ 281474976710656 := by rw [hieb]; omega
          have hcond : ((decide (c < 0) || decide ((it.bytes : Int) * c > 2 ^ 48)) || decide (l < 0) || decide (l > c)) = false := by simp [hc0, hl0, hgt, hbig2]
          simp only [Instr.makeSlice, Sem.run_bind, run_underlying hu, Result.andThen_ok, asInt, asIntOf, Sem.run_pure, typeInfo, run_program, hit, hwl, hwc, hcond, Bool.false_eq_true, if_false, run_askRoom, sizeOf_run hn]
          by_cases q : c.toNat * n = 0
          · simp only [q, if_true, Sem.run_pure, Result.andThen_ok, Go.newRow, Sem.run_bind, run_newObj, push]
          · simp only [q, if_false, zeroValue, typeInfo, Sem.run_bind, run_program, Result.andThen_ok, hit, hzv, Sem.run_pure, Go.newRow, run_newObj, push]
        · simp only [VRel]; exact ⟨trivial, by omega, _, Ren.upd_same, rfl, Nat.le_refl _, by simp⟩
      · cases h
    · cases h
  · cases h

theorem bound_run {x : AV} {v : Value} {y n : Nat} (code : BoundsCode) (hx : VRel ρ x v) (h : bound x y = some n) : (Instr.sliceBound v y code).run P w = .ok n w ∧ n ≤ y := by
  unfold bound at h
  split at h
  · rename_i k i
    rw [int_rel hx]
    split at h
    · rename_i hi
      simp only [Option.some.injEq] at h
      subst h
      refine ⟨?_, by omega⟩
      simp only [Instr.sliceBound, asIntOf, Sem.run_bind, Sem.run_pure, Result.andThen_ok, if_pos hi]
    · cases h
  · cases h

theorem bound_mono {x : AV} {y y' n : Nat} (h : bound x y = some n) (hy : y ≤ y') : bound x y' = some n := by
  unfold bound at h ⊢
  split at h
  · split at h
    · rename_i hi; rw [if_pos (by omega)]; exact h
    · cases h
  · cases h

/-- an operand that may not be there -/
def OptRel (ρ : Ren) : Option AV → Option Value → Prop
  | none, none => True
  | some x, some v => VRel ρ x v
  | _, _ => False

/-- the bounds of a slice whose room is at least cap, and cap itself if a highest one is told of -/
theorem bounds_run {isS : Bool} {len cap cap' : Nat} {lo hi mx : Option AV} {lov hiv mxv : Option Value} {l h m : Nat} (hlo : OptRel ρ lo lov) (hhi : OptRel ρ hi hiv) (hmx : OptRel ρ mx mxv)
    (hlen : len ≤ cap) (hcap : cap ≤ cap') (hb : bounds len cap lo hi mx = some (l, h, m)) :
    ∃ m', (Instr.sliceBounds isS len cap' lov hiv mxv).run P w = .ok (l, h, m') w ∧ l ≤ h ∧ h ≤ m ∧ m ≤ cap ∧
      ((mx.isSome = true ∧ m' = m) ∨ (mx = none ∧ m = cap ∧ m' = cap')) := by
  unfold bounds at hb
  simp only [Option.bind_eq_some_iff, Option.some.injEq, Prod.mk.injEq] at hb
  obtain ⟨m0, hm0, h0, hh0, l0, hl0, rfl, rfl, rfl⟩ := hb
  cases mx with
  | none =>
    cases mxv with
    | some _ => simp [OptRel] at hmx
    | none =>
      simp only [Option.some.injEq] at hm0
      subst hm0
      cases hi with
      | none =>
        cases hiv with
        | some _ => simp [OptRel] at hhi
        | none =>
          simp only [Option.isSome_none, Bool.false_eq_true, if_false, Option.some.injEq] at hh0
          subst hh0
          cases lo with
          | none =>
            cases lov with
            | some _ => simp [OptRel] at hlo
            | none =>
              simp only [Option.some.injEq] at hl0
              subst hl0
              exact ⟨cap', by simp [Instr.sliceBounds], Nat.zero_le _, hlen, Nat.le_refl _, Or.inr ⟨rfl, rfl, rfl⟩⟩
          | some x =>
            cases lov with
            | none => simp [OptRel] at hlo
            | some v =>
              obtain ⟨h1, h2⟩ := bound_run (P := P) (w := w) .sliceB hlo hl0
              exact ⟨cap', by simp [Instr.sliceBounds, h1], h2, hlen, Nat.le_refl _, Or.inr ⟨rfl, rfl, rfl⟩⟩
      | some y =>
        cases hiv with
        | none => simp [OptRel] at hhi
        | some yv =>
          have hb2 : bound y cap' = some h0 := by
            exact bound_mono hh0 hcap
          obtain ⟨_, hle⟩ := bound_run (P := P) (w := w) .sliceAcap hhi hh0
          have hy : ∀ code, (Instr.sliceBound yv cap' code).run P w = .ok h0 w := fun code => (bound_run (P := P) (w := w) code hhi hb2).1
          cases lo with
          | none =>
            cases lov with
            | some _ => simp [OptRel] at hlo
            | none =>
              simp only [Option.some.injEq] at hl0
              subst hl0
              refine ⟨cap', ?_, Nat.zero_le _, hle, Nat.le_refl _, Or.inr ⟨rfl, rfl, rfl⟩⟩
              cases isS <;> simp [Instr.sliceBounds, hy]
          | some x =>
            cases lov with
            | none => simp [OptRel] at hlo
            | some v =>
              obtain ⟨h1, h2⟩ := bound_run (P := P) (w := w) .sliceB hlo hl0
              refine ⟨cap', ?_, h2, hle, Nat.le_refl _, Or.inr ⟨rfl, rfl, rfl⟩⟩
              cases isS <;> simp [Instr.sliceBounds, hy, h1]
  | some mxx =>
    cases mxv with
    | none => simp [OptRel] at hmx
    | some mv =>
      have hb2 : bound mxx cap' = some m0 := by
        exact bound_mono hm0 hcap
      obtain ⟨_, hmle⟩ := bound_run (P := P) (w := w) .slice3Acap hmx hm0
      have hm : ∀ code, (Instr.sliceBound mv cap' code).run P w = .ok m0 w := fun code => (bound_run (P := P) (w := w) code hmx hb2).1
      cases hi with
      | none => simp at hh0
      | some y =>
        cases hiv with
        | none => simp [OptRel] at hhi
        | some yv =>
          obtain ⟨hy, hle⟩ := bound_run (P := P) (w := w) .slice3B hhi hh0
          cases lo with
          | none =>
            cases lov with
            | some _ => simp [OptRel] at hlo
            | none =>
              simp only [Option.some.injEq] at hl0
              subst hl0
              refine ⟨m0, ?_, Nat.zero_le _, hle, hmle, Or.inl ⟨rfl, rfl⟩⟩
              cases isS <;> simp [Instr.sliceBounds, hy, hm]
          | some x =>
            cases lov with
            | none => simp [OptRel] at hlo
            | some v =>
              obtain ⟨h1, h2⟩ := bound_run (P := P) (w := w) .slice3C hlo hl0
              refine ⟨m0, ?_, h2, hle, hmle, Or.inl ⟨rfl, rfl⟩⟩
              cases isS <;> simp [Instr.sliceBounds, hy, hm, h1]

/-- an operation that neither makes nor lays anything -/
def Gives (P : Program) (ρ : Ren) (w : World) (s : Sem Value) (v : AV) : Prop := ∃ u, s.run P w = .ok u w ∧ VRel ρ v u

theorem sliceArr_run {k : Nat} {e : TypeId} {id off : Nat} {lo hi mx : Option AV} {lov hiv mxv : Option Value} {v : AV} {ent : Ent} (he : ρ id = some ent)
    (hlo : OptRel ρ lo lov) (hhi : OptRel ρ hi hiv) (hmx : OptRel ρ mx mxv) (h : sliceArr P k e id off lo hi mx = some v) :
    ∃ l h m n u, (Instr.sliceBounds false k k lov hiv mxv).run P w = .ok (l, h, m) w ∧ (Go.sizeOf e).run P w = .ok n w ∧
      u = .slice (some (if m = l then ⟨ent.blk, off, none⟩ else (⟨ent.blk, off, none⟩ : Addr).add (l * n))) (h - l) (m - l) ∧ VRel ρ v u := by
  unfold sliceArr at h
  simp only [Option.bind_eq_some_iff] at h
  obtain ⟨n, hn, ⟨l, hh, m⟩, hb, h⟩ := h
  simp only [Option.some.injEq] at h
  subst h
  obtain ⟨m', hrun, h1, h2, h3, hm⟩ := bounds_run (P := P) (w := w) (isS := false) hlo hhi hmx (Nat.le_refl _) (Nat.le_refl _) hb
  have hmm : m' = m := by rcases hm with ⟨_, h⟩ | ⟨_, h, h'⟩ <;> omega
  subst hmm
  refine ⟨l, hh, m', n, _, hrun, sizeOf_run hn, rfl, ?_⟩
  by_cases c : m' = l
  · simp only [if_pos c, VRel]; exact ⟨trivial, by omega, ent, he, rfl, Nat.le_refl _, by simp⟩
  · simp only [if_neg c, VRel, add_none]; exact ⟨trivial, by omega, ent, he, rfl, Nat.le_refl _, by simp⟩

theorem slice_run {t : TypeId} {x v : AV} {xv : Value} {lo hi mx : Option AV} {lov hiv mxv : Option Value} (hx : VRel ρ x xv)
    (hlo : OptRel ρ lo lov) (hhi : OptRel ρ hi hiv) (hmx : OptRel ρ mx mxv) (h : sliceOp P t x lo hi mx = some v) :
    Gives P ρ w (Instr.sliceAt t xv lov hiv mxv) v := by
  unfold sliceOp at h
  split at h
  · -- a string
    rename_i s hu
    rw [str_rel hx]
    split at h
    · cases h
    · rename_i hm
      have hmn : mx = none := by cases mx with | none => rfl | some _ => simp at hm
      subst hmn
      have hmv : mxv = none := by cases mxv with | none => rfl | some _ => simp [OptRel] at hmx
      subst hmv
      simp only [Option.map_eq_some_iff] at h
      obtain ⟨⟨l, hh, m⟩, hb, rfl⟩ := h
      obtain ⟨m', hrun, _⟩ := bounds_run (P := P) (w := w) (isS := false) hlo hhi hmx (Nat.le_refl _) (Nat.le_refl _) hb
      exact ⟨.string (s.extract l hh), by simp [Instr.sliceAt, Instr.slice, run_underlying hu, hrun], by simp [VRel]⟩
  · -- a slice
    rename_i e a len cap ex hu
    simp only [Option.bind_eq_some_iff] at h
    obtain ⟨n, hn, ⟨l, hh, m⟩, hb, h⟩ := h
    cases xv with
    | slice av len' cap' =>
      cases a with
      | none =>
        cases av with
        | some _ => simp [VRel] at hx
        | none =>
          simp only [VRel] at hx
          obtain ⟨rfl, rfl, rfl, hlen⟩ := hx
          simp only [Bool.true_or, Option.some.injEq] at h
          subst h
          obtain ⟨m', hrun, h1, h2, h3, hm⟩ := bounds_run (P := P) (w := w) (isS := true) hlo hhi hmx hlen (Nat.le_refl _) hb
          have hmm : m' = m := by rcases hm with ⟨_, h⟩ | ⟨_, h, h'⟩ <;> omega
          subst hmm
          exact ⟨.slice none (hh - l) (m' - l), by simp [Instr.sliceAt, Instr.slice, run_underlying hu, hrun, sizeOf_run hn], by simp only [VRel]; exact ⟨trivial, trivial, trivial, by omega⟩⟩
      | some p =>
        obtain ⟨id, off⟩ := p
        cases av with
        | none => simp [VRel] at hx
        | some ad =>
          simp only [VRel] at hx
          obtain ⟨rfl, hlen, ent, he, rfl, hcc, hex⟩ := hx
          dsimp only at h
          obtain ⟨m', hrun, h1, h2, h3, hm⟩ := bounds_run (P := P) (w := w) (isS := true) hlo hhi hmx hlen hcc hb
          refine ⟨.slice (if m' = l then some ⟨ent.blk, off, none⟩ else (some (⟨ent.blk, off, none⟩ : Addr)).map (·.add (l * n))) (hh - l) (m' - l), by simp [Instr.sliceAt, Instr.slice, run_underlying hu, hrun, sizeOf_run hn], ?_⟩
          by_cases c : (ex || mx.isSome) = true
          · rw [if_pos c] at h
            simp only [Option.some.injEq] at h
            subst h
            have hmm : m' = m := by
              rcases hm with ⟨_, h⟩ | ⟨h0, h, h'⟩
              · exact h
              · subst h0
                simp only [Option.isSome_none, Bool.or_false] at c
                subst c
                simp only [if_true] at hex
                omega
            subst hmm
            by_cases d : m' = l
            · simp only [if_pos d, VRel]; exact ⟨trivial, by omega, ent, he, rfl, Nat.le_refl _, by simp⟩
            · simp only [if_neg d, Option.map_some, VRel, add_none]; exact ⟨trivial, by omega, ent, he, rfl, Nat.le_refl _, by simp⟩
          · rw [if_neg c] at h
            simp only [Bool.or_eq_true, not_or] at c
            obtain ⟨c1, c2⟩ := c
            have hexf : ex = false := Bool.eq_false_iff.2 c1
            subst hexf
            simp only [Bool.false_eq_true, if_false] at hex
            rcases hm with ⟨h0, _⟩ | ⟨h0, hmc, hmc'⟩
            · exact absurd h0 c2
            · by_cases d : m = l
              · rw [if_pos d] at h
                simp only [Option.some.injEq] at h
                subst h
                have hz : hh - l = 0 := by omega
                by_cases d2 : m' = l
                · simp only [if_pos d2, VRel]; exact hz
                · simp only [if_neg d2, Option.map_some, VRel]; exact hz
              · rw [if_neg d] at h
                simp only [Option.some.injEq] at h
                subst h
                have hml : l < m := by omega
                have d2 : ¬ m' = l := by omega
                simp only [if_neg d2, Option.map_some, VRel, add_none]
                refine ⟨trivial, by omega, ent, he, rfl, by omega, ?_⟩
                simp only [Bool.false_eq_true, if_false]
                intro ho
                have h5 := hex (by omega)
                exact Nat.le_trans (Nat.mul_le_mul_right _ (by omega)) h5
    | _ => cases a <;> simp [VRel] at hx
  · -- a slice of nothing
    rename_i e hu
    simp only [Option.bind_eq_some_iff] at h
    obtain ⟨n, hn, ⟨l, hh, m⟩, hb, h⟩ := h
    split at h
    · cases h
    · rename_i hm
      simp only [Option.some.injEq] at h
      subst h
      have hmn : mx = none := by cases mx with | none => rfl | some _ => simp at hm
      subst hmn
      cases xv with
      | slice av len' cap' =>
        cases av with
        | none => simp [VRel] at hx
        | some ad =>
          simp only [VRel] at hx
          subst hx
          obtain ⟨m', hrun, h1, h2, h3, hm'⟩ := bounds_run (P := P) (w := w) (isS := true) (cap' := cap') hlo hhi hmx (Nat.le_refl _) (Nat.zero_le _) hb
          have hl0 : l = 0 := by omega
          have hh0 : hh = 0 := by omega
          subst hl0 hh0
          refine ⟨.slice (if m' = 0 then some ad else (some ad).map (·.add (0 * n))) (0 - 0) (m' - 0), by simp [Instr.sliceAt, Instr.slice, run_underlying hu, hrun, sizeOf_run hn], ?_⟩
          by_cases d : m' = 0
          · simp only [if_pos d, VRel]
          · simp only [if_neg d, Option.map_some, VRel]
      | _ => simp [VRel] at hx
  · -- a pointer to an array
    rename_i arr id off hu
    split at h
    · rename_i k e hua
      cases xv with
      | pointer av =>
        cases av with
        | none => simp [VRel] at hx
        | some ad =>
          simp only [VRel] at hx
          obtain ⟨ent, he, rfl⟩ := hx
          obtain ⟨l, hh, m, n, u, hrun, hn, hu', hrel⟩ := sliceArr_run (P := P) (w := w) he hlo hhi hmx h
          exact ⟨u, by simp [Instr.sliceAt, Instr.slice, run_underlying hu, run_underlying hua, asAddr, hrun, hn, hu'], hrel⟩
      | _ => simp [VRel] at hx
    · cases h
  · -- an array's place
    rename_i k e id off hu
    cases xv with
    | pointer av =>
      cases av with
      | none => simp [VRel] at hx
      | some ad =>
        simp only [VRel] at hx
        obtain ⟨ent, he, rfl⟩ := hx
        obtain ⟨l, hh, m, n, u, hrun, hn, hu', hrel⟩ := sliceArr_run (P := P) (w := w) he hlo hhi hmx h
        exact ⟨u, by simp [Instr.sliceAt, Instr.sureAddr, run_underlying hu, hrun, hn, hu'], hrel⟩
    | _ => simp [VRel] at hx
  · cases h
end
end AE

/- The abstract evaluator: addresses, parts, numbers, comparisons. Conditions: none. -/
namespace AE
open Go

section
variable {P : Program} {ρ : Ren} {H : Heap} {w : World}

theorem ptr_rel {id off : Nat} {v : Value} (h : VRel ρ (.ptr (some (id, off))) v) : ∃ e, ρ id = some e ∧ v = .pointer (some ⟨e.blk, off, none⟩) := by
  cases v with
  | pointer a => cases a with
    | none => simp [VRel] at h
    | some a => simp only [VRel] at h; obtain ⟨e, he, rfl⟩ := h; exact ⟨e, he, rfl⟩
  | _ => simp [VRel] at h

theorem agg_rel {xs : List AV} {v : Value} (h : VRel ρ (.agg xs) v) : ∃ us : Array Value, v = .agg us ∧ VRels ρ xs us.toList := by
  cases v with
  | agg us => exact ⟨us, rfl, by simpa [VRel] using h⟩
  | _ => simp [VRel] at h

theorem tuple_rel {xs : List AV} {v : Value} (h : VRel ρ (.tuple xs) v) : ∃ us : Array Value, v = .tuple us ∧ VRels ρ xs us.toList := by
  cases v with
  | tuple us => exact ⟨us, rfl, by simpa [VRel] using h⟩
  | _ => simp [VRel] at h

theorem fieldAddr_run {t : TypeId} {a v : AV} {av : Value} {f : Nat} (ha : VRel ρ a av) (h : fieldAddr P t a f = some v) : Gives P ρ w (Instr.fieldAt t av f) v := by
  unfold fieldAddr at h
  split at h
  · rename_i fs id off hu
    obtain ⟨e, he, rfl⟩ := ptr_rel ha
    simp only [Option.bind_eq_some_iff] at h
    obtain ⟨fl, hf, n, hn, h⟩ := h
    split at h
    · cases h
    · rename_i hn0
      simp only [Option.some.injEq] at h
      subst h
      refine ⟨.pointer (some ⟨e.blk, off + fl.offset, none⟩), ?_, by simp only [VRel]; exact ⟨e, he, rfl⟩⟩
      simp [Instr.fieldAt, run_underlying hu, hf, Instr.sureAddr, fieldPlace, sizeOf_run hn, hn0, add_none]
  · cases h

theorem indexAddr_run {t : TypeId} {x i v : AV} {xv iv : Value} (hx : VRel ρ x xv) (hi : VRel ρ i iv) (h : indexAddr P t x i = some v) : Gives P ρ w (Instr.indexAt t xv iv) v := by
  unfold indexAddr at h
  split at h
  · rename_i e id off len cap ex k i hu
    rw [int_rel hi]
    cases xv with
    | slice av len' cap' =>
      cases av with
      | none => simp [VRel] at hx
      | some ad =>
        simp only [VRel] at hx
        obtain ⟨rfl, _, ent, he, rfl, _⟩ := hx
        split at h
        · rename_i hb
          simp only [Option.bind_eq_some_iff, Option.some.injEq] at h
          obtain ⟨n, hn, rfl⟩ := h
          refine ⟨.pointer (some ⟨ent.blk, off + i.toNat * n, none⟩), ?_, by simp only [VRel]; exact ⟨ent, he, rfl⟩⟩
          simp [Instr.indexAt, run_underlying hu, asIntOf, hb, sizeOf_run hn, add_none]
        · cases h
    | _ => simp [VRel] at hx
  · rename_i len e id off k i hu
    rw [int_rel hi]
    obtain ⟨ent, he, rfl⟩ := ptr_rel hx
    split at h
    · rename_i hb
      simp only [Option.bind_eq_some_iff, Option.some.injEq] at h
      obtain ⟨n, hn, rfl⟩ := h
      refine ⟨.pointer (some ⟨ent.blk, off + i.toNat * n, none⟩), ?_, by simp only [VRel]; exact ⟨ent, he, rfl⟩⟩
      simp [Instr.indexAt, run_underlying hu, asIntOf, Instr.sureAddr, hb, sizeOf_run hn, add_none]
    · cases h
  · cases h

theorem takeAt_rel {cs : List AV} {us : Array Value} {off n : Nat} {l : List AV} (hc : VRels ρ cs us.toList) (h : takeAt cs off n = some l) : VRels ρ l (us.extract off (off + n)).toList := by
  unfold takeAt at h
  split at h
  · simp only [Option.some.injEq] at h
    subst h
    have := VRels.take n _ _ (VRels.drop off _ _ hc)
    simpa [Array.toList_extract, List.extract_eq_take_drop] using this
  · cases h

theorem part_run {t : TypeId} {cs : List AV} {us : Array Value} {off : Nat} {v : AV} (hc : VRels ρ cs us.toList) (h : part P t cs off = some v) : Gives P ρ w (Go.part t us off) v := by
  unfold part at h
  simp only [Option.bind_eq_some_iff] at h
  obtain ⟨b, hb, h⟩ := h
  cases b with
  | true =>
    simp only [Option.bind_eq_some_iff, Option.map_eq_some_iff] at h
    obtain ⟨n, hn, l, hl, rfl⟩ := h
    exact ⟨.agg (us.extract off (off + n)), by simp [Go.part, isAgg_run hb, sizeOf_run hn], by simp only [VRel]; exact takeAt_rel hc hl⟩
  | false =>
    obtain ⟨u, hu, hr⟩ := VRels.get _ _ _ _ hc h
    rw [Array.getElem?_toList] at hu
    exact ⟨u, by simp [Go.part, isAgg_run hb, hu], hr⟩

theorem index_run {t : TypeId} {x i v : AV} {xv iv : Value} (hx : VRel ρ x xv) (hi : VRel ρ i iv) (h : index P t x i = some v) : Gives P ρ w (Instr.index t xv iv) v := by
  unfold index at h
  split at h
  · rename_i len e cs k i hu
    rw [int_rel hi]
    obtain ⟨us, rfl, hr⟩ := agg_rel hx
    split at h
    · rename_i hb
      simp only [Option.bind_eq_some_iff] at h
      obtain ⟨n, hn, h⟩ := h
      obtain ⟨u, hrun, hu'⟩ := part_run (P := P) (w := w) hr h
      exact ⟨u, by simp [Instr.index, run_underlying hu, asIntOf, hb, sizeOf_run hn, hrun], hu'⟩
    · cases h
  · rename_i s k i hu
    rw [int_rel hi, str_rel hx]
    split at h
    · rename_i hb
      simp only [Option.map_eq_some_iff] at h
      obtain ⟨b, hs, rfl⟩ := h
      refine ⟨.int .u8 b.toNat, ?_, by simp [VRel]⟩
      have hs' : s[i.toNat]? = some b := by
        have : i.toNat < s.data.size := by
          rcases Nat.lt_or_ge i.toNat s.data.size with h1 | h1
          · exact h1
          · rw [Array.getElem?_eq_none h1] at hs; cases hs
        rw [Array.getElem?_eq_getElem this] at hs
        simp only [Option.some.injEq] at hs
        rw [getElem?_pos s i.toNat this]
        exact congrArg some hs
      simp [Instr.index, run_underlying hu, asIntOf, hb, hs']
    · cases h
  · cases h

theorem field_run {t : TypeId} {x v : AV} {xv : Value} {f : Nat} (hx : VRel ρ x xv) (h : field P t x f = some v) : Gives P ρ w (Instr.field t xv f) v := by
  unfold field at h
  split at h
  · rename_i fs cs hu
    obtain ⟨us, rfl, hr⟩ := agg_rel hx
    simp only [Option.bind_eq_some_iff] at h
    obtain ⟨fl, hf, h⟩ := h
    obtain ⟨u, hrun, hu'⟩ := part_run (P := P) (w := w) hr h
    exact ⟨u, by simp [Instr.field, run_underlying hu, hf, asAgg, hrun], hu'⟩
  · cases h

theorem extract_run {x v : AV} {xv : Value} {i : Nat} {vs : List AV} (hx : VRel ρ x xv) (he : x = .tuple vs) (h : vs[i]? = some v) : Gives P ρ w (Instr.extract xv i) v := by
  subst he
  obtain ⟨us, rfl, hr⟩ := tuple_rel hx
  obtain ⟨u, hu, hr'⟩ := VRels.get _ _ _ _ hr h
  rw [Array.getElem?_toList] at hu
  exact ⟨u, by simp [Instr.extract, hu], hr'⟩

theorem Gives.int {s : Sem Value} {k : IntKind} {n : Int} (h : s.run P w = .ok (.int k n) w) : Gives P ρ w s (.int k n) := ⟨_, h, by simp [VRel]⟩
theorem Gives.bool {s : Sem Value} {b : Bool} (h : s.run P w = .ok (.bool b) w) : Gives P ρ w s (.bool b) := ⟨_, h, by simp [VRel]⟩
theorem Gives.str {s : Sem Value} {b : ByteArray} (h : s.run P w = .ok (.string b) w) : Gives P ρ w s (.str b) := ⟨_, h, by simp [VRel]⟩

theorem intOp_run {op : BinOp} {k : IntKind} {a b : Int} {v : AV} (h : intOp op k a b = some v) (t : TypeId) :
    Gives P ρ w (Go.binOp op t (.int k a) (.int k b)) v := by
  cases op <;> simp only [intOp] at h <;> first
    | (cases h; done)
    | (split at h
       · cases h
       · rename_i hb
         simp only [Option.some.injEq] at h
         subst h
         refine Gives.int ?_
         simp [Go.binOp, Op.intDiv, hb])
    | (simp only [Option.some.injEq] at h
       subst h
       first
         | (refine Gives.int ?_; simp only [Go.binOp, Op.intArith, Op.intBits, ne_eq, not_true_eq_false, if_false, Sem.run_pure])
         | (refine Gives.bool ?_; simp only [Go.binOp, Op.intCmp, ne_eq, not_true_eq_false, if_false, Sem.run_pure]))

theorem shiftOp_run {op : BinOp} {k l : IntKind} {a b : Int} {v : AV} (ho : op = .shl ∨ op = .shr) (h : shiftOp op k a b = some v) (t : TypeId) :
    Gives P ρ w (Go.binOp op t (.int k a) (.int l b)) v := by
  unfold shiftOp at h
  split at h
  · cases h
  · rename_i hb
    rcases ho with rfl | rfl <;> simp only [Option.some.injEq] at h <;> subst h
    · refine Gives.int ?_; simp only [Go.binOp, Op.shift, hb, if_false, Sem.run_pure]
    · refine Gives.int ?_; simp only [Go.binOp, Op.shift, hb, if_false, Sem.run_pure]

theorem strOp_run {op : BinOp} {x y : ByteArray} {v : AV} (h : strOp op x y = some v) (t : TypeId) : Gives P ρ w (Go.binOp op t (.string x) (.string y)) v := by
  cases op <;> simp only [strOp] at h <;> first
    | (cases h; done)
    | skip
  case add =>
    split at h
    · rename_i hb
      simp only [Option.some.injEq] at h
      subst h
      have : ¬ (((x.size + y.size : Nat) : Int) > IntKind.i64.max) := by
        have : IntKind.i64.max = 9223372036854775807 := by decide
        omega
      refine Gives.str ?_
      simp only [Go.binOp, Op.stringOp, this, if_false, Sem.run_pure]
    · cases h
  all_goals
    simp only [Option.some.injEq] at h
    subst h
    refine Gives.bool ?_
    simp only [Go.binOp, Op.stringOp, Sem.run_pure]
end
end AE
