/- The abstract evaluator: literals, new rows, addresses, slices. Conditions: none. -/
import Derived.Test.YtandggoanbdjkaaGreatDoorAEOps1
import Derived.Laws.Tables
namespace AE
open Go

theorem foldl_cells : ∀ (l : List Value) (k off : Nat) (cs : Array Value),
    ((l.zipIdx k).foldl (fun cs (p : Value × Nat) => cs.setIfInBounds (off + p.2) p.1) cs).size = cs.size ∧
    ∀ j, ((l.zipIdx k).foldl (fun cs (p : Value × Nat) => cs.setIfInBounds (off + p.2) p.1) cs)[j]? =
      if off + k ≤ j ∧ j < off + k + l.length ∧ j < cs.size then l[j - (off + k)]? else cs[j]? := by
  intro l
  induction l with
  | nil => intro k off cs; exact ⟨rfl, fun j => by rw [if_neg (by simp only [List.length_nil]; omega)]; rfl⟩
  | cons v l ih =>
    intro k off cs
    simp only [List.zipIdx_cons, List.foldl_cons]
    obtain ⟨h1, h2⟩ := ih (k + 1) off (cs.setIfInBounds (off + k) v)
    refine ⟨by rw [h1]; simp, fun j => ?_⟩
    rw [h2]
    simp only [Array.size_setIfInBounds, List.length_cons]
    by_cases c1 : off + (k + 1) ≤ j ∧ j < off + (k + 1) + l.length ∧ j < cs.size
    · rw [if_pos c1, if_pos (by omega)]
      have : j - (off + k) = (j - (off + (k + 1))) + 1 := by omega
      rw [this, List.getElem?_cons_succ]
    · rw [if_neg c1, Array.getElem?_setIfInBounds]
      by_cases c2 : off + k = j
      · subst c2
        rw [if_pos rfl]
        by_cases c3 : off + k < cs.size
        · rw [if_pos c3, if_pos (by omega)]; simp
        · rw [if_neg c3, if_neg (by omega)]; rw [Array.getElem?_eq_none (by omega)]
      · rw [if_neg c2, if_neg (by omega)]

theorem putAt_get {cs : List AV} {off : Nat} {vs cs' : List AV} (h : putAt cs off vs = some cs') :
    off + vs.length ≤ cs.length ∧ cs'.length = cs.length ∧ ∀ j, cs'[j]? = if off ≤ j ∧ j < off + vs.length then vs[j - off]? else cs[j]? := by
  unfold putAt at h
  split at h
  · rename_i hl
    simp only [Option.some.injEq] at h
    subst h
    refine ⟨hl, by simp; omega, fun j => ?_⟩
    by_cases c1 : j < off
    · rw [if_neg (by omega), List.getElem?_append_left (by simp; omega)]
      simp [c1]
    · rw [List.getElem?_append_right (by simp; omega)]
      simp only [List.length_take]
      have : min off cs.length = off := by omega
      rw [this]
      by_cases c2 : j < off + vs.length
      · rw [if_pos (by omega), List.getElem?_append_left (by omega)]
      · rw [if_neg (by omega), List.getElem?_append_right (by omega), List.getElem?_drop]
        congr 1; omega
  · cases h

/-- lists of parts -/
def PRel (ρ : Ren) : List (Nat × AV) → List (Nat × Value) → Prop
  | [], [] => True
  | (i, x) :: xs, (j, v) :: vs => i = j ∧ VRel ρ x v ∧ PRel ρ xs vs
  | _, _ => False

theorem fill_rel {ρ : Ren} {place : Nat → Option (Nat × Nat)} : ∀ (ps : List (Nat × AV)) (qs : List (Nat × Value)) (cs cs' : List AV) (us : Array Value), PRel ρ ps qs → VRels ρ cs us.toList →
    fill place cs ps = some cs' → ∃ us', Instr.fill place us qs = some us' ∧ VRels ρ cs' us'.toList
  | [], [], cs, cs', us, _, hc, h => by simp only [fill, Option.some.injEq] at h; subst h; exact ⟨us, rfl, hc⟩
  | [], _ :: _, _, _, _, h, _, _ => by simp [PRel] at h
  | _ :: _, [], _, _, _, h, _, _ => by simp [PRel] at h
  | (i, x) :: ps, (j, v) :: qs, cs, cs', us, hp, hc, h => by
    simp only [PRel] at hp
    obtain ⟨rfl, hx, hps⟩ := hp
    simp only [fill, Option.bind_eq_some_iff] at h
    obtain ⟨⟨off, size⟩, hpl, h⟩ := h
    simp only at h
    split at h
    · rename_i hsz
      obtain ⟨hkn, hsz⟩ := hsz
      simp only [Option.bind_eq_some_iff] at h
      obtain ⟨cs1, h1, h2⟩ := h
      obtain ⟨g1, g2, g3⟩ := putAt_get h1
      have hlen := VRels.length _ _ hc
      have hcl := cells_length hkn hx
      simp only [Array.length_toList] at hlen
      have hv := cells_rel hkn hx
      obtain ⟨f1, f2⟩ := foldl_cells v.cells.toList 0 off us
      have hfold : (v.cells.zipIdx.foldl (fun cs (c, j) => cs.setIfInBounds (off + j) c) us) = ((v.cells.toList.zipIdx 0).foldl (fun cs (p : Value × Nat) => cs.setIfInBounds (off + p.2) p.1) us) := by
        rw [← Array.foldl_toList]; simp
      have hrel1 : VRels ρ cs1 (v.cells.zipIdx.foldl (fun cs (c, j) => cs.setIfInBounds (off + j) c) us).toList := by
        rw [hfold]
        apply VRels.of_get
        · simp only [Array.length_toList]; omega
        · intro k y hy
          rw [g3] at hy
          simp only [Array.getElem?_toList, f2, Nat.add_zero, Array.length_toList]
          by_cases c : off ≤ k ∧ k < off + x.cells.length
          · rw [if_pos c] at hy
            rw [if_pos (by omega)]
            simpa using VRels.get _ _ _ _ hv hy
          · rw [if_neg c] at hy
            rw [if_neg (by omega)]
            have := VRels.get _ _ _ _ hc hy
            simpa using this
      obtain ⟨us', hf, hr⟩ := fill_rel ps qs cs1 cs' _ hps hrel1 h2
      refine ⟨us', ?_, hr⟩
      simp only [Instr.fill, hpl]
      rw [if_neg ?_]
      · exact hf
      · simp only [Bool.or_eq_true, decide_eq_true_eq, not_or]
        constructor
        · simp; omega
        · omega
    · cases h

section
variable {P : Program} {ρ : Ren} {H : Heap} {w : World}

theorem structPlaces {fs : List Field} (h : ∀ f ∈ fs, (sizeOf P f.type).isSome = true) :
    fs.mapM (fun f => (P.info? f.type).map fun i => (f.offset, i.size)) = some (fs.map fun f => (f.offset, (sizeOf P f.type).getD 0)) := by
  induction fs with
  | nil => rfl
  | cons f fs ih =>
    simp only [List.mapM_cons, Option.bind_eq_bind, Option.pure_def]
    have h0 := h f (List.mem_cons_self ..)
    obtain ⟨n, hn⟩ := Option.isSome_iff_exists.1 h0
    obtain ⟨i, hi, rfl⟩ := info_of_size hn
    rw [ih fun g hg => h g (List.mem_cons_of_mem _ hg)]
    simp [hi, hn]

theorem build_run {t : TypeId} {ps : List (Nat × AV)} {qs : Array (Nat × Value)} {v : AV} (hp : PRel ρ ps qs.toList) (h : build P t ps = some v) :
    ∃ u, (Instr.build t qs).run P w = .ok u w ∧ VRel ρ v u := by
  unfold build at h
  simp only [Option.bind_eq_some_iff] at h
  obtain ⟨z, hz, d, hd, h⟩ := h
  unfold zeroOf at hz
  simp only [Option.bind_eq_some_iff] at hz
  obtain ⟨it, hit, zv, hzv, hz⟩ := hz
  have hzc : VRels ρ z.cells zv.cells.toList := cells_rel (ofVal_known zv z hz) (ofVal_rel ρ zv z hz)
  cases d <;> simp only at h <;> try (cases h; done)
  case array n e =>
    simp only [Option.bind_eq_some_iff, Option.map_eq_some_iff] at h
    obtain ⟨k, hk, cs, hcs, rfl⟩ := h
    obtain ⟨ie, hie, rfl⟩ := info_of_size hk
    obtain ⟨us, hus, hr⟩ := fill_rel ps qs.toList _ _ _ hp hzc hcs
    refine ⟨.agg us, run_build w t qs us ?_, by simpa [VRel] using hr⟩
    simp [Program.built, hit, hd, hzv, hie, hus]
  case struct fs =>
    split at h
    · rename_i hall
      simp only [Option.map_eq_some_iff] at h
      obtain ⟨cs, hcs, rfl⟩ := h
      have hall' : ∀ f ∈ fs.toList, (sizeOf P f.type).isSome = true := by
        intro f hf
        rw [Array.all_eq_true'] at hall
        exact hall f (by simpa using hf)
      have hpl : structPlace P fs = fun i => (fs.toList.map fun f => (f.offset, (sizeOf P f.type).getD 0)).toArray[i]? := by
        funext i
        unfold structPlace
        simp only [List.getElem?_toArray, List.getElem?_map, Array.getElem?_toList]
        cases hi : fs[i]? with
        | none => rfl
        | some f =>
          have hf : f ∈ fs.toList := by
            rw [← Array.getElem?_toList] at hi
            exact List.mem_of_getElem? hi
          obtain ⟨n, hn⟩ := Option.isSome_iff_exists.1 (hall' f hf)
          simp [hn]
      rw [hpl] at hcs
      obtain ⟨us, hus, hr⟩ := fill_rel ps qs.toList _ _ _ hp hzc hcs
      refine ⟨.agg us, run_build w t qs us ?_, by simpa [VRel] using hr⟩
      simp only [Program.built, hit, hd, hzv, structPlaces hall']
      exact hus
    · cases h

theorem rep_length : ∀ (c : Nat) (zs : List AV), (rep c zs).length = c * zs.length
  | 0, zs => by simp [rep]
  | c + 1, zs => by simp [rep, rep_length c zs, Nat.add_mul]; omega

theorem rep_get : ∀ (c : Nat) (zs : List AV) (j : Nat), j < c * zs.length → (rep c zs)[j]? = zs[j % zs.length]?
  | 0, zs, j, h => by simp at h
  | c + 1, zs, j, h => by
    have hz : 0 < zs.length := by
      rcases Nat.eq_zero_or_pos zs.length with h0 | h0
      · rw [h0] at h; simp at h
      · exact h0
    simp only [rep]
    by_cases c1 : j < zs.length
    · rw [List.getElem?_append_left c1, Nat.mod_eq_of_lt c1]
    · rw [List.getElem?_append_right (by omega), rep_get c zs (j - zs.length) (by have := Nat.succ_mul c zs.length; simp only [Nat.succ_eq_add_one] at this; omega)]
      congr 1
      exact (Nat.mod_eq_sub_mod (by omega)).symm

/-- the model's rows of zeros -/
theorem zeros_rel {zs : List AV} {zv : Array Value} (h : VRels ρ zs zv.toList) (n : Nat) (c : Nat) (hn : n = c * zs.length) :
    VRels ρ (rep c zs) ((Array.range n).map (zv[· % zv.size]!)).toList := by
  have hl := VRels.length _ _ h
  simp only [Array.length_toList] at hl
  apply VRels.of_get
  · simp [rep_length, hn]
  · intro j x hx
    have hj : j < c * zs.length := by
      rcases Nat.lt_or_ge j (c * zs.length) with h1 | h1
      · exact h1
      · rw [List.getElem?_eq_none (by rw [rep_length]; exact h1)] at hx; cases hx
    rw [rep_get c zs j hj] at hx
    obtain ⟨v, hv, hr⟩ := VRels.get _ _ _ _ h hx
    refine ⟨v, ?_, hr⟩
    have hlt : j % zv.size < zv.size := by
      rw [← hl]
      apply Nat.mod_lt
      rcases Nat.eq_zero_or_pos zs.length with h0 | h0
      · rw [h0] at hj; simp at hj
      · exact h0
    simp only [Array.toList_map, Array.toList_range, List.getElem?_map, List.getElem?_range (show j < n by omega), Option.map_some]
    rw [hl] at hv
    simp only [Array.getElem?_toList] at hv
    rw [getElem!_pos zv (j % zv.size) hlt]
    rw [Array.getElem?_eq_getElem hlt] at hv
    exact hv

theorem zeroCells_of {e : TypeId} {z : AV} (h : zeroOf P e = some z) : ∃ it zv, P.info? e = some it ∧ it.zero = some zv ∧ VRel ρ z zv ∧ VRels ρ z.cells zv.cells.toList := by
  unfold zeroOf at h
  simp only [Option.bind_eq_some_iff] at h
  obtain ⟨it, hit, zv, hzv, hz⟩ := h
  exact ⟨it, zv, hit, hzv, ofVal_rel ρ zv z hz, cells_rel (ofVal_known zv z hz) (ofVal_rel ρ zv z hz)⟩

/-- how a step ends that makes something -/
def Made [Base] (P : Program) (at_ : Option Nat) (ρ : Ren) (H : Heap) (w : World) (s : Sem Value) (v : AV) (H' : Heap) : Prop :=
  ∃ ρ' w' u, s.run P w = .ok u w' ∧ VRel ρ' v u ∧ Rel P ρ' H' w' ∧ Step at_ ρ H w ρ' H' w'

theorem alloc_run [Base] (hr : Rel P ρ H w) {at_ : Option Nat} {e : TypeId} {z : AV} {id : Nat} {H' : Heap} (hz : zeroOf P e = some z) (hat : ∀ i, at_ = some i → ρ i = none)
    (h : H.alloc at_ (.cells (.zeros e 1 z.cells)) = some (id, H')) : Made P at_ ρ H w (Instr.alloc e true (.tuple #[])) (.ptr (some (id, 0))) H' := by
  obtain ⟨it, zv, hit, hzv, hzr, hzc⟩ := zeroCells_of (ρ := ρ) hz
  have hl := VRels.length _ _ hzc
  simp only [Array.length_toList] at hl
  have ho : ORel P ρ ⟨w.heap.size, zv.cells.size, 0⟩ (.cells (.zeros e 1 z.cells)) (some (.cells zv.cells e)) := by
    refine ⟨rfl, rfl, ?_, Or.inl rfl, fun h => (by cases h), fun k hk => ?_⟩
    · show 1 * z.cells.length ≤ _; omega
    · have hk : k < 1 * z.cells.length := hk
      have hk2 : k < z.cells.length := by omega
      obtain ⟨v, h1, h2⟩ := VRels.get _ _ k z.cells[k] hzc (by simp)
      refine ⟨z.cells[k], v, ?_, by simpa using h1, h2⟩
      rw [Blk.get_zeros, if_pos hk, Nat.mod_eq_of_lt hk2]; simp
  obtain ⟨h1, h2, h3⟩ := hr.alloc h hat ho
  refine ⟨_, _, .pointer (some ⟨w.heap.size, 0, none⟩), ?_, ?_, h1, h2⟩
  · simp [Instr.alloc, zeroValue, typeInfo, hit, hzv, Go.newVar, Go.newRow, push]
  · simp only [VRel]; exact ⟨_, Ren.upd_same, rfl⟩

theorem box_run [Base] (hr : Rel P ρ H w) {at_ : Option Nat} {e : TypeId} {v : AV} {u : Value} {id : Nat} {H' : Heap} (hkn : v.known = true) (hv : VRel ρ v u) (hat : ∀ i, at_ = some i → ρ i = none)
    (h : H.alloc at_ (.cells (.ofList e false v.cells)) = some (id, H')) : Made P at_ ρ H w (Instr.box e u) (.ptr (some (id, 0))) H' := by
  obtain ⟨ρ', h1, h2, h3, h4, h5⟩ := newRow_run (extra := []) (sz := 0) hr h hat (cells_rel hkn hv) (by simp)
  simp only [List.append_nil, Array.toArray_toList] at h1 h2 h4 h5
  refine ⟨ρ', _, .pointer (some ⟨w.heap.size, 0, none⟩), ?_, ?_, h4, h5⟩
  · simp [Instr.box, Go.newVar, h1]
  · simp only [VRel]; exact ⟨_, h2, rfl⟩

theorem buildSlice_run [Base] (hr : Rel P ρ H w) {at_ : Option Nat} {t : TypeId} {n : Nat} {ps : List (Nat × AV)} {qs : Array (Nat × Value)} {v : AV} {H' : Heap} (hp : PRel ρ ps qs.toList)
    (hat : ∀ i, at_ = some i → ρ i = none) (h : buildSlice P t n ps at_ H = some (v, H')) : Made P at_ ρ H w (Instr.buildSlice t n qs) v H' := by
  unfold buildSlice at h
  split at h
  · rename_i e hu
    simp only [Option.bind_eq_some_iff] at h
    obtain ⟨k, hk, h⟩ := h
    split at h
    · rename_i hsmall
      simp only [Option.bind_eq_some_iff] at h
      obtain ⟨z, hz, h⟩ := h
      split at h
      · rename_i hzl
        simp only [Option.bind_eq_some_iff] at h
        obtain ⟨cs, hcs, ⟨id, H1⟩, ha, h⟩ := h
        simp only [Option.some.injEq, Prod.mk.injEq] at h
        obtain ⟨rfl, rfl⟩ := h
        obtain ⟨it, zv, hit, hzv, hzr, hzc⟩ := zeroCells_of (ρ := ρ) hz
        obtain ⟨ie, hie, hies⟩ := info_of_size hk
        rw [hit] at hie
        simp only [Option.some.injEq] at hie
        subst hie
        have hzl2 := VRels.length _ _ hzc
        simp only [Array.length_toList] at hzl2
        -- the model's zero row
        have hrow : VRels ρ (rep n z.cells) ((Array.range (n * k)).map ((if n * k = 0 then (#[] : Array Value) else zv.cells)[· % (if n * k = 0 then (#[] : Array Value) else zv.cells).size]!)).toList := by
          by_cases c : n * k = 0
          · have : rep n z.cells = [] := by
              apply List.eq_nil_of_length_eq_zero; rw [rep_length, hzl, c]
            rw [this]; simp [c, VRels]
          · simp only [if_neg c]
            exact zeros_rel hzc (n * k) n (by rw [hzl])
        obtain ⟨us, hus, hur⟩ := fill_rel ps qs.toList _ _ _ hp hrow hcs
        obtain ⟨ρ', h1, h2, h3, h4, h5⟩ := newRow_run (extra := []) (sz := 0) hr ha hat hur (by simp)
        simp only [List.append_nil, Array.toArray_toList] at h1 h2 h4 h5
        refine ⟨ρ', _, .slice (some ⟨w.heap.size, 0, none⟩) n n, ?_, ?_, h4, h5⟩
        · have hbig : ¬ (n * k > 2 ^ 24) := by omega
          simp only [Instr.buildSlice, Sem.run_bind, run_underlying hu, Result.andThen_ok, sizeOf_run hk, hbig, if_false]
          by_cases c : n * k = 0
          · simp only [c, if_true] at hus ⊢
            simp only [Sem.run_pure, Result.andThen_ok, Sem.run_bind]
            rw [hus]
            simp [h1]
          · simp only [c, if_false] at hus ⊢
            simp only [zeroValue, typeInfo, Sem.run_bind, run_program, Result.andThen_ok, hit, hzv, Sem.run_pure]
            rw [hus]
            simp [h1]
        · simp only [VRel]; exact ⟨trivial, Nat.le_refl _, _, h2, rfl, Nat.le_refl _, by simp⟩
      · cases h
    · cases h
  · cases h
end
end AE
