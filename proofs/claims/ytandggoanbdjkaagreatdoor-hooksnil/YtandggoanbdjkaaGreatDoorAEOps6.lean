/- The abstract evaluator: conversions, maps, interface values, what is built in. Conditions: none. -/
import Derived.Test.YtandggoanbdjkaaGreatDoorAEOps5
namespace AE
open Go

section
variable {P : Program} {ρ : Ren} {H : Heap} {w : World}

theorem Gives.made [Base] {s : Sem Value} {v : AV} {at_ : Option Nat} (hr : Rel P ρ H w) (h : Gives P ρ w s v) : Made P at_ ρ H w s v H := by
  obtain ⟨u, h1, h2⟩ := h
  exact ⟨ρ, w, u, h1, h2, hr, Step.refl ..⟩

theorem bytesOfCells_run : ∀ (cs : List AV) (us : List Value) (acc s : ByteArray), VRels ρ cs us → bytesOfCells cs acc = some s →
    (forIn us acc (fun (c : Value) (s : ByteArray) => match c with
      | .int .u8 n => (pure (.yield (s.push (UInt8.ofNat n.toNat))) : Sem (ForInStep ByteArray))
      | _ => do stuck "bytesToString: byte expected"; pure (.yield s))).run P w = .ok s w
  | [], [], acc, s, _, h => by simp only [bytesOfCells, Option.some.injEq] at h; subst h; simp
  | [], _ :: _, _, _, h, _ => by simp [VRels] at h
  | _ :: _, [], _, _, h, _ => by simp [VRels] at h
  | c :: cs, u :: us, acc, s, hr, h => by
    simp only [VRels] at hr
    unfold bytesOfCells at h
    split at h
    · rename_i heq; cases heq
    · rename_i n cs' hc
      simp only [List.cons.injEq] at hc
      obtain ⟨rfl, rfl⟩ := hc
      rw [int_rel hr.1]
      simp only [List.forIn_cons, Sem.run_bind, Sem.run_pure, Result.andThen_ok]
      exact bytesOfCells_run cs us _ s hr.2 h
    · cases h

theorem bytes_run {cs : List AV} {us : List Value} {s : ByteArray} {e : Ent} {off n : Nat} (hu : VRels ρ cs us) (hs : bytesOfCells cs .empty = some s)
    (hl : (Go.loadCells ⟨e.blk, off, none⟩ n).run P w = .ok us.toArray w) (c : Nat) : (Conv.bytesToString (.slice (some ⟨e.blk, off, none⟩) n c)).run P w = .ok (.string s) w := by
  have := bytesOfCells_run (P := P) (w := w) cs us .empty s hu hs
  simp only [Conv.bytesToString, Sem.run_bind, hl, Result.andThen_ok]
  rw [← Array.forIn_toList]
  have h2 := congrArg (fun r => r.andThen fun (a : ByteArray) w' => Result.ok (Value.string a) w') this
  exact h2

theorem strBytes_rel (s : ByteArray) : VRels ρ (s.data.toList.map fun b => AV.int .u8 b.toNat) (s.data.toList.map fun b => Value.int .u8 b.toNat) := by
  apply VRels.of_get
  · simp
  · intro j x hx
    simp only [List.getElem?_map, Option.map_eq_some_iff] at hx ⊢
    obtain ⟨b, hb, rfl⟩ := hx
    exact ⟨_, ⟨b, hb, rfl⟩, by simp [VRel]⟩

theorem freeze_setBlk (w : World) (b : Nat) (cs : Array Value) (T : TypeId) (fr : Nat × Nat) (h : w.heap[b]? = some (.cells cs T fr)) :
    w.freeze ⟨b, cs.size, none⟩ 1 = setBlk w b (.cells cs T (if fr.1 == fr.2 then (cs.size, cs.size + 1) else (min fr.1 cs.size, max fr.2 (cs.size + 1)))) := by
  cases w with
  | mk heap tape drawn os output =>
    simp only [World.freeze, setBlk] at *
    rw [if_neg (by decide)]
    congr 1
    apply Array.ext_getElem?
    intro i
    rw [Array.getElem?_modify, Array.getElem?_setIfInBounds]
    by_cases c : b = i
    · subst c
      have hlt : b < heap.size := by
        rcases Nat.lt_or_ge b heap.size with h' | h'
        · exact h'
        · rw [Array.getElem?_eq_none h'] at h; cases h
      rw [if_pos rfl, h]
      obtain ⟨lo, hi⟩ := fr
      simp [hlt]
    · rw [if_neg c, if_neg c]

/-- behind a draw -/
theorem Rel.drew [Base] (hr : Rel P ρ H w) (n : Nat) : Rel P ρ H { w with drawn := n } := ⟨hr.obj, hr.inj, hr.rng, hr.nxt, hr.kept⟩
theorem Step.drew {at_ : Option Nat} (n : Nat) : Step at_ ρ H w ρ H { w with drawn := n } :=
  ⟨Ren.le_refl ρ, fun i e h h' => (by rw [h] at h'; cases h'), Nat.le_refl _, Nat.le_refl _, fun _ _ _ => rfl, fun i o e h l r _ => ⟨i, o, e, h, l, r, rfl⟩, rfl, rfl, rfl, fun _ _ h _ => h⟩

theorem freeze_push (w : World) (cs : Array Value) (e : TypeId) : (push w (.cells cs e)).freeze ⟨w.heap.size, cs.size, none⟩ 1 = push w (.cells cs e (cs.size, cs.size + 1)) := by
  cases w with
  | mk heap tape drawn os output =>
    simp only [World.freeze, push]
    rw [if_neg (by decide)]
    congr 1
    apply Array.ext_getElem?
    intro i
    rw [Array.getElem?_modify, Array.getElem?_push, Array.getElem?_push]
    by_cases c : i = heap.size
    · subst c; simp
    · rw [if_neg (fun h => c h.symm), if_neg c, if_neg c]

theorem stringToBytes_run [Base] (hr : Rel P ρ H w) {at_ : Option Nat} {e : TypeId} {s : ByteArray} {id : Nat} {H1 : Heap} (hat : ∀ i, at_ = some i → ρ i = none) (hs1 : sizeOf P e = some 1)
    (ha : H.alloc at_ (.cells (.ofList e true (s.data.toList.map fun b => .int .u8 b.toNat))) = some (id, H1)) :
    Made P at_ ρ H w (Conv.stringToBytes e s) (.slice (some (id, 0)) s.size s.size false) H1 := by
  let q : Question := .appendCap s.size 0 e
  let cap := q.cut (w.tape w.drawn q)
  have hcap : s.size ≤ cap := by show s.size ≤ s.size + _; omega
  let w1 : World := { w with drawn := w.drawn + 1 }
  let arr : Array Value := (s.data.map fun b => Value.int .u8 b.toNat) ++ Array.replicate (cap - s.size) (.int .u8 0)
  have harr : arr.size = cap := by simp only [arr, Array.size_append, Array.size_map, Array.size_replicate]; show s.size + (cap - s.size) = cap; omega
  have hrel := strBytes_rel (ρ := ρ) s
  have ho : ORel P ρ ⟨w1.heap.size, arr.size, 1⟩ (.cells (.ofList e true (s.data.toList.map fun b => .int .u8 b.toNat))) (some (.cells arr e (arr.size, arr.size + 1))) := by
    refine ⟨rfl, rfl, ?_, Or.inr (Nat.le_refl _), fun _ => hs1, fun k hk => ?_⟩
    · show (s.data.toList.map fun b => AV.int .u8 b.toNat).length ≤ _
      rw [harr]; simp only [List.length_map, Array.length_toList]; exact hcap
    · have hk : k < (s.data.toList.map fun b => AV.int .u8 b.toNat).length := hk
      obtain ⟨v, h1, h2⟩ := VRels.get _ _ k ((s.data.toList.map fun b => AV.int .u8 b.toNat)[k]) hrel (List.getElem?_eq_getElem hk)
      refine ⟨_, v, by rw [Blk.get_ofList]; exact List.getElem?_eq_getElem hk, ?_, h2⟩
      have hk' : k < (s.data.map fun b => Value.int .u8 b.toNat).size := by simpa using hk
      rw [Array.getElem?_append_left hk', ← Array.getElem?_toList, Array.toList_map]
      exact h1
  obtain ⟨h1, h2, h3⟩ := (hr.drew (w.drawn + 1)).alloc ha hat ho
  refine ⟨_, _, .slice (some ⟨w.heap.size, 0, none⟩) s.size cap, ?_, ?_, h1, (Step.drew (w.drawn + 1)).trans h2⟩
  · have hch : (choose q).run P w = .ok cap w1 := rfl
    have hsh : (push w1 (.cells arr e)).shape? w.heap.size = some (e, arr.size) := by
      simp only [World.shape?, push_heap]; rw [if_pos rfl]
    have hfz := freeze_push w1 arr e
    have hnew : (Go.newRow e arr).run P w1 = .ok ⟨w.heap.size, 0, none⟩ (push w1 (.cells arr e)) := rfl
    have hmk : (markStringish ⟨w.heap.size, 0, none⟩).run P (push w1 (.cells arr e)) = .ok () (push w1 (.cells arr e (arr.size, arr.size + 1))) := by
      simp only [markStringish, Sem.run_bind, run_shape, Result.andThen_ok, hsh, run_freeze]
      exact congrArg (Result.ok ()) hfz
    have hall : (Conv.stringToBytes e s).run P w = ((Go.newRow e arr).run P w1).andThen fun a w' => ((markStringish a).run P w').andThen fun _ w' => .ok (.slice (some a) s.size cap) w' := by
      simp only [Conv.stringToBytes, Sem.run_bind, show (choose (.appendCap s.size 0 e)).run P w = .ok cap w1 from hch, Result.andThen_ok, Sem.run_pure]
      rfl
    rw [hall, hnew, Result.andThen_ok, hmk]
    rfl
  · simp only [VRel]
    refine ⟨trivial, Nat.le_refl _, _, Ren.upd_same, rfl, hcap, ?_⟩
    simp only [Bool.false_eq_true, if_false]
    intro _; rw [harr]; omega

theorem convert_run [Base] (hr : Rel P ρ H w) {at_ : Option Nat} {src dst : TypeId} {x v : AV} {xv : Value} {H' : Heap} (hx : VRel ρ x xv) (hat : ∀ i, at_ = some i → ρ i = none)
    (h : convert P src dst x at_ H = some (v, H')) : Made P at_ ρ H w (Go.convert src dst xv) v H' := by
  unfold convert at h
  split at h
  · rename_i k0 k k1 n hs hd
    simp only [Option.some.injEq, Prod.mk.injEq] at h
    obtain ⟨rfl, rfl⟩ := h
    rw [int_rel hx]
    refine Gives.made hr (Gives.int ?_)
    simp [Go.convert, run_underlying hs, run_underlying hd, Conv.intToInt]
  · rename_i s hs hd
    simp only [Option.some.injEq, Prod.mk.injEq] at h
    obtain ⟨rfl, rfl⟩ := h
    rw [str_rel hx]
    refine Gives.made hr (Gives.str ?_)
    simp [Go.convert, run_underlying hs, run_underlying hd]
  · rename_i e s hs hd
    split at h
    · rename_i he
      split at h
      · rename_i hs1
        simp only [Option.bind_eq_some_iff] at h
        obtain ⟨⟨id, H1⟩, ha, h⟩ := h
        simp only [Option.some.injEq, Prod.mk.injEq] at h
        obtain ⟨rfl, rfl⟩ := h
        rw [str_rel hx]
        obtain ⟨ρ', w', u, h1, h2, h3, h4⟩ := stringToBytes_run hr hat hs1 ha
        exact ⟨ρ', w', u, by simp [Go.convert, run_underlying hs, run_underlying hd, run_underlying he, h1], h2, h3, h4⟩
      · cases h
    · cases h
  · rename_i e0 e p l c ex hs hd
    obtain ⟨id, off⟩ := p
    split at h
    · rename_i hsd
      split at h
      · rename_i he
        split at h
        · rename_i b hb
          simp only [Option.some.injEq, Prod.mk.injEq] at h
          obtain ⟨rfl, rfl⟩ := h
          cases xv <;> try (simp [VRel] at hx; done)
          rename_i a l' c'
          cases a with
          | none => simp [VRel] at hx
          | some a =>
            have hx0 := hx
            simp only [VRel] at hx
            obtain ⟨rfl, _, ent, hent, rfl, _⟩ := hx
            obtain ⟨e', cs, fr, he', hcs, hsz, hbn, hfr, hgsz, hget⟩ := hr.cells hb
            dsimp only at he' hent
            rw [hent] at he'; simp only [Option.some.injEq] at he'; subst he'
            have ho : ORel P ρ ent (.cells b) (some (.cells cs b.t (if fr.1 == fr.2 then (cs.size, cs.size + 1) else (min fr.1 cs.size, max fr.2 (cs.size + 1))))) := by
              refine ⟨rfl, hsz, hbn, ?_, hgsz, hget⟩
              split
              · exact Or.inr (Nat.le_refl _)
              · rename_i hne
                rcases hfr with hfr | hfr
                · simp [hfr] at hne
                · exact Or.inr (by show cs.size ≤ min fr.1 cs.size; omega)
            obtain ⟨h1, h2⟩ := hr.put hb trivial hent ho
            refine ⟨ρ, _, _, ?_, hx0, h1, h2.weaken⟩
            have hsh : w.shape? ent.blk = some (b.t, cs.size) := by simp [World.shape?, hcs]
            have hfz := freeze_setBlk w ent.blk cs b.t fr hcs
            simp only [Go.convert, run_underlying hs, run_underlying hd, run_underlying he, markStringish, Sem.run_bind, run_shape, Result.andThen_ok, hsh, run_freeze, hsd, Sem.run_pure, hfz]
        · cases h
      · cases h
    · cases h
  · rename_i e c ex hs hd
    split at h
    · rename_i he
      simp only [Option.some.injEq, Prod.mk.injEq] at h
      obtain ⟨rfl, rfl⟩ := h
      cases xv <;> try (simp [VRel] at hx; done)
      rename_i a l c'
      cases a with
      | some _ => simp [VRel] at hx
      | none =>
        refine Gives.made hr (Gives.str ?_)
        simp [Go.convert, run_underlying hs, run_underlying hd, run_underlying he, Conv.bytesToString]
    · cases h
  · rename_i e hs hd
    split at h
    · rename_i he
      simp only [Option.some.injEq, Prod.mk.injEq] at h
      obtain ⟨rfl, rfl⟩ := h
      cases xv <;> try (simp [VRel] at hx; done)
      rename_i a l c'
      cases a with
      | none => simp [VRel] at hx
      | some a =>
        simp only [VRel] at hx
        subst hx
        refine Gives.made hr (Gives.str ?_)
        simp [Go.convert, run_underlying hs, run_underlying hd, run_underlying he, Conv.bytesToString, Go.loadCells, Go.loadCellsFrom]
    · cases h
  · rename_i e id off len c ex hs hd
    split at h
    · rename_i he
      simp only [Option.bind_eq_some_iff, Option.some.injEq, Prod.mk.injEq] at h
      obtain ⟨cs, hcs, s, hss, rfl, rfl⟩ := h
      cases xv <;> try (simp [VRel] at hx; done)
      rename_i a l c'
      cases a with
      | none => simp [VRel] at hx
      | some a =>
        simp only [VRel] at hx
        obtain ⟨rfl, _, ent, hent, rfl, _⟩ := hx
        obtain ⟨us, hrun, hu, _⟩ := loadCells_run hr hcs ent hent
        refine Gives.made hr (Gives.str ?_)
        have := bytes_run (P := P) hu hss (hrun w rfl) c'
        simp [Go.convert, run_underlying hs, run_underlying hd, run_underlying he, this]
    · cases h
  · cases h

/-! maps -/

def kindOk (d : TypeDesc) (x : AV) : Prop := match d, x with | .int _, .int _ _ | .string, .str _ | .bool, .bool _ => True | _, _ => False

theorem basic_same {x y : AV} {xv yv : Value} {b : Bool} {d : TypeDesc} (hx : VRel ρ x xv) (hy : VRel ρ y yv) (h : sameKey x y = some b)
    (hd : kindOk d x) : Instr.sameNow d xv yv = some b := by
  unfold sameKey at h
  split at h
  · rename_i k a l c
    rw [int_rel hx, int_rel hy]
    by_cases hk : k = l
    · rw [if_pos hk] at h
      simp only [Option.some.injEq] at h; subst h
      cases d <;> simp_all [Instr.sameNow, kindOk]
    · rw [if_neg hk] at h; cases h
  · rw [str_rel hx, str_rel hy]
    simp only [Option.some.injEq] at h; subst h
    cases d <;> simp_all [Instr.sameNow, kindOk]
  · rw [bool_rel hx, bool_rel hy]
    simp only [Option.some.injEq] at h; subst h
    cases d <;> simp_all [Instr.sameNow, kindOk]
  · cases h

theorem findKey_run {k : AV} {kv : Value} {d : TypeDesc} (hk : VRel ρ k kv) (hd : kindOk d k) : ∀ (es : List (AV × AV)) (es' : List MapEntry) (i : Nat) (r : Option (Nat × AV)), ERel ρ es es' →
    findKey k es i = some r → ∃ r', Instr.findNow d kv es' i = some r' ∧
      (match r, r' with
       | none, none => True
       | some (j, v), some (j', v') => j = j' ∧ VRel ρ v v' ∧ i ≤ j ∧ ∃ k' e, es[j - i]? = some (k', v) ∧ es'[j - i]? = some e ∧ sameKey k k' = some true ∧ VRel ρ k' e.key
       | _, _ => False)
  | [], [], i, r, _, h => by simp only [findKey, Option.some.injEq] at h; subst h; exact ⟨none, rfl, trivial⟩
  | [], _ :: _, _, _, h, _ => by simp [ERel] at h
  | _ :: _, [], _, _, h, _ => by simp [ERel] at h
  | (x, v) :: es, e :: es', i, r, hr, h => by
    simp only [ERel] at hr
    obtain ⟨_, hx, hv, hes⟩ := hr
    simp only [findKey] at h
    split at h
    · rename_i hs
      simp only [Option.some.injEq] at h; subst h
      refine ⟨some (i, e.val), ?_, rfl, hv, Nat.le_refl _, x, e, by simp, by simp, hs, hx⟩
      simp only [Instr.findNow, basic_same hk hx hs hd]
    · rename_i hs
      obtain ⟨r', h1, h2⟩ := findKey_run hk hd es es' (i + 1) r hes h
      refine ⟨r', ?_, ?_⟩
      · simp only [Instr.findNow, basic_same hk hx hs hd]; exact h1
      · cases r with
        | none => cases r' with
          | none => trivial
          | some _ => exact h2
        | some p => cases r' with
          | none => exact h2
          | some p' =>
            obtain ⟨j, vv⟩ := p
            obtain ⟨j', vv'⟩ := p'
            simp only at h2 ⊢
            obtain ⟨e1, e2, e3, k', ee, e4, e5, e6, e7⟩ := h2
            refine ⟨e1, e2, by omega, k', ee, ?_, ?_, e6, e7⟩
            · have : j - i = (j - (i + 1)) + 1 := by omega
              rw [this]; simpa using e4
            · have : j - i = (j - (i + 1)) + 1 := by omega
              rw [this]; simpa using e5
    · cases h

theorem keyOk_spec {t : TypeId} {k : AV} (h : keyOk P t k = true) : ∃ d, P.underlying t = some d ∧ kindOk d k ∧ basicKey k = true := by
  unfold keyOk at h
  split at h
  · rename_i q _ _ hu; exact ⟨_, hu, trivial, rfl⟩
  · rename_i hu; exact ⟨_, hu, trivial, rfl⟩
  · rename_i hu; exact ⟨_, hu, trivial, rfl⟩
  · cases h

theorem checkKey_run' (n : Nat) {t : TypeId} {k : AV} {kv : Value} {d : TypeDesc} (em : Bool) (hk : VRel ρ k kv) (hu : P.underlying t = some d) (hd : kindOk d k) :
    (Instr.checkKey em (n + 1) t kv).run P w = .ok () w := by
  unfold kindOk at hd
  split at hd
  · rw [int_rel hk]; simp [Instr.checkKey, run_underlying hu]
  · rw [str_rel hk]; simp [Instr.checkKey, run_underlying hu]
  · rw [bool_rel hk]; simp [Instr.checkKey, run_underlying hu]
  · exact hd.elim

theorem checkKey_run {t : TypeId} {k : AV} {kv : Value} {d : TypeDesc} (em : Bool) (hk : VRel ρ k kv) (hu : P.underlying t = some d) (hd : kindOk d k) :
    (Instr.checkKey em 10000 t kv).run P w = .ok () w := checkKey_run' 9999 em hk hu hd

theorem ERel.length : ∀ (es : List (AV × AV)) (es' : List MapEntry), ERel ρ es es' → es.length = es'.length
  | [], [], _ => rfl
  | [], _ :: _, h => by simp [ERel] at h
  | _ :: _, [], h => by simp [ERel] at h
  | _ :: es, _ :: es', h => by simp only [ERel] at h; simp [ERel.length es es' h.2.2.2]

theorem ERel.append : ∀ (es : List (AV × AV)) (es' : List MapEntry) (fs : List (AV × AV)) (fs' : List MapEntry), ERel ρ es es' → ERel ρ fs fs' → ERel ρ (es ++ fs) (es' ++ fs')
  | [], [], _, _, _, h => by simpa using h
  | [], _ :: _, _, _, h, _ => by simp [ERel] at h
  | _ :: _, [], _, _, h, _ => by simp [ERel] at h
  | (k, v) :: es, e :: es', fs, fs', h, h' => by
    simp only [ERel, List.cons_append] at *
    exact ⟨h.1, h.2.1, h.2.2.1, ERel.append es es' fs fs' h.2.2.2 h'⟩

theorem ERel.modify {k v : AV} {kv vv : Value} (hb : basicKey k = true) (hk : VRel ρ k kv) (hv : VRel ρ v vv) : ∀ (i : Nat) (es : List (AV × AV)) (es' : List MapEntry), ERel ρ es es' →
    ERel ρ (es.modify i fun _ => (k, v)) (es'.modify i fun e => { e with key := kv, val := vv })
  | _, [], [], _ => by cases ‹Nat› <;> simp [ERel]
  | _, [], _ :: _, h => by simp [ERel] at h
  | _, _ :: _, [], h => by simp [ERel] at h
  | 0, (k', v') :: es, e :: es', h => by
    simp only [ERel, List.modify_zero_cons] at *
    exact ⟨hb, hk, hv, h.2.2.2⟩
  | i + 1, (k', v') :: es, e :: es', h => by
    simp only [ERel, List.modify_succ_cons] at *
    exact ⟨h.1, h.2.1, h.2.2.1, ERel.modify hb hk hv i es es' h.2.2.2⟩

theorem ERel.erase : ∀ (i : Nat) (es : List (AV × AV)) (es' : List MapEntry), ERel ρ es es' → ERel ρ (es.eraseIdx i) (es'.eraseIdx i)
  | _, [], [], _ => by simp [ERel]
  | _, [], _ :: _, h => by simp [ERel] at h
  | _, _ :: _, [], h => by simp [ERel] at h
  | 0, (k', v') :: es, e :: es', h => by simp only [ERel, List.eraseIdx_cons_zero] at *; exact h.2.2.2
  | i + 1, (k', v') :: es, e :: es', h => by
    simp only [ERel, List.eraseIdx_cons_succ] at *
    exact ⟨h.1, h.2.1, h.2.2.1, ERel.erase i es es' h.2.2.2⟩

theorem map_rel {r : Option Nat} {v : Value} (h : VRel ρ (.map r) v) : (r = none ∧ v = .map none) ∨ ∃ i e, r = some i ∧ ρ i = some e ∧ v = .map (some e.blk) := by
  cases v <;> try (cases r <;> simp [VRel] at h; done)
  rename_i q
  cases r with
  | none => cases q with
    | none => exact Or.inl ⟨rfl, rfl⟩
    | some _ => simp [VRel] at h
  | some i => cases q with
    | none => simp [VRel] at h
    | some q => simp only [VRel] at h; obtain ⟨e, he, rfl⟩ := h; exact Or.inr ⟨i, e, rfl, he, rfl⟩

theorem lookup_run [Base] (hr : Rel P ρ H w) {t : TypeId} {x k v : AV} {xv kv : Value} {ok : Bool} (hx : VRel ρ x xv) (hk : VRel ρ k kv) (h : lookup P t x k ok H = some v) :
    Gives P ρ w (Instr.lookup t xv kv ok) v := by
  unfold lookup at h
  split at h
  · rename_i kt e hu
    split at h
    · rename_i hko
      obtain ⟨d, hd, hkd, hbk⟩ := keyOk_spec hko
      simp only [Option.bind_eq_some_iff] at h
      obtain ⟨es, hes, r, hf, h⟩ := h
      -- the entries
      have hent : ∃ es' : Array MapEntry, ERel ρ es es'.toList ∧ ((xv = .map none ∧ es' = #[]) ∨ ∃ b c, xv = .map (some b) ∧ w.heap[b]? = some (.map es' c)) := by
        split at hes
        · simp only [Option.some.injEq] at hes; subst hes
          rcases map_rel hx with ⟨_, rfl⟩ | ⟨i, e, h1, _⟩
          · exact ⟨#[], by simp [ERel], Or.inl ⟨rfl, rfl⟩⟩
          · cases h1
        · rename_i r0
          split at hes
          · rename_i es0 hg
            simp only [Option.some.injEq] at hes; subst hes
            obtain ⟨e0, es', c, he0, hw, hrel⟩ := hr.map hg
            rcases map_rel hx with ⟨h1, _⟩ | ⟨i, e1, h1, h2, rfl⟩
            · cases h1
            · simp only [Option.some.injEq] at h1; subst h1
              rw [he0] at h2; simp only [Option.some.injEq] at h2; subst h2
              exact ⟨es', hrel, Or.inr ⟨e0.blk, c, rfl, hw⟩⟩
          · cases hes
        · cases hes
      obtain ⟨es', hrel, hxv⟩ := hent
      obtain ⟨r', hfn, hrr⟩ := findKey_run hk hkd es es'.toList 0 r hrel hf
      have hfk : (Instr.findKey kt kv es'.toList).run P w = .ok r' w := by simp [Instr.findKey, run_underlying hd, hfn]
      have hck : ∀ em, (Instr.checkKey em 10000 kt kv).run P w = .ok () w := fun em => checkKey_run em hk hd hkd
      have hhead : ∀ (K : Array MapEntry → Sem Value), ((match xv with
          | .map none => (pure #[] : Sem (Array MapEntry))
          | .map (some r) => do
            let .map es _ ← getObj r | stuck "Lookup: map expected"
            pure es
          | _ => stuck "Lookup: map expected") >>= K).run P w = (K es').run P w := by
        intro K
        rcases hxv with ⟨rfl, rfl⟩ | ⟨b, c, rfl, hw⟩
        · simp
        · simp [getObj, Sem.run, hw]
      cases r with
      | none =>
        cases r' with
        | some _ => exact hrr.elim
        | none =>
          simp only [Option.map_eq_some_iff] at h
          obtain ⟨z, hz, rfl⟩ := h
          obtain ⟨u, hzr, hu'⟩ := zero_run (P := P) (ρ := ρ) (w := w) hz
          refine ⟨if ok then .tuple #[u, .bool false] else u, ?_, ?_⟩
          · simp only [Instr.lookup, Sem.run_bind, run_underlying hu, Result.andThen_ok]
            rcases hxv with ⟨rfl, rfl⟩ | ⟨b, c, rfl, hw⟩
            · simp [hck, hfk, hzr]
            · simp [getObj, Sem.run, hw, hck, hfk, hzr]
          · cases ok <;> simp [VRel, VRels, hu']
      | some p =>
        obtain ⟨j, vv⟩ := p
        cases r' with
        | none => exact hrr.elim
        | some p' =>
          obtain ⟨j', u⟩ := p'
          simp only at hrr
          obtain ⟨_, hvu, _⟩ := hrr
          simp only [Option.some.injEq] at h
          subst h
          refine ⟨if ok then .tuple #[u, .bool true] else u, ?_, ?_⟩
          · simp only [Instr.lookup, Sem.run_bind, run_underlying hu, Result.andThen_ok]
            rcases hxv with ⟨rfl, rfl⟩ | ⟨b, c, rfl, hw⟩
            · simp [hck, hfk]
            · simp [getObj, Sem.run, hw, hck, hfk]
          · cases ok <;> simp [VRel, VRels, hvu]
    · cases h
  · cases h
end
end AE
