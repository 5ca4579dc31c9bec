/- The abstract evaluator: conversions, maps, interface values, what is built in. Conditions: none. -/
import Derived.Test.YtandggoanbdjkaaGreatDoorWAEOps5
import Derived.Deep.AppendSrc
namespace AE
open Go

section
variable {P : Program} {ρ : Ren} {H : Heap} {w : World}

theorem Gives.made [Base] {s : Sem Value} {v : AV} {at_ : Option Nat} (hr : Rel P ρ H w) (h : Gives P ρ w s v) : Made P at_ ρ H w s v H := by
  obtain ⟨u, h1, h2⟩ := h
  exact ⟨ρ, w, u, h1, h2, hr, Step.refl ..⟩

theorem bytesOfCells_run : ∀ (cs : List AV) (us : List Value) (acc s : ByteArray), VRels ρ cs us → bytesOfCells cs acc = some s →
    (forIn us acc (fun (c : Value) (s : ByteArray) => match c with
      | .int .u8 n => (pure (.yield (s.push (UInt8.ofNat n.toNat))) : Sem (ForInStep ByteArray))
      | _ => do stuck "bytesToString: byte expected"; pure (.yield s))).run P w = .ok s w
  | [], [], acc, s, _, h => by simp only [bytesOfCells, Option.some.injEq] at h; subst h; simp
  | [], _ :: _, _, _, h, _ => by simp [VRels] at h
  | _ :: _, [], _, _, h, _ => by simp [VRels] at h
  | c :: cs, u :: us, acc, s, hr, h => by
    simp only [VRels] at hr
    unfold bytesOfCells at h
    split at h
    · rename_i heq; cases heq
    · rename_i n cs' hc
      simp only [List.cons.injEq] at hc
      obtain ⟨rfl, rfl⟩ := hc
      rw [int_rel hr.1]
      simp only [List.forIn_cons, Sem.run_bind, Sem.run_pure, Result.andThen_ok]
      exact bytesOfCells_run cs us _ s hr.2 h
    · cases h

theorem bytes_run {cs : List AV} {us : List Value} {s : ByteArray} {e : Ent} {off n : Nat} (hu : VRels ρ cs us) (hs : bytesOfCells cs .empty = some s)
    (hl : (Go.loadCells ⟨e.blk, off, none⟩ n).run P w = .ok us.toArray w) (c : Nat) : (Conv.bytesToString (.slice (some ⟨e.blk, off, none⟩) n c)).run P w = .ok (.string s) w := by
  have := bytesOfCells_run (P := P) (w := w) cs us .empty s hu hs
  simp only [Conv.bytesToString, Sem.run_bind, hl, Result.andThen_ok]
  rw [← Array.forIn_toList]
  have h2 := congrArg (fun r => r.andThen fun (a : ByteArray) w' => Result.ok (Value.string a) w') this
  exact h2

theorem strBytes_rel (s : ByteArray) : VRels ρ (s.data.toList.map fun b => AV.int .u8 b.toNat) (s.data.toList.map fun b => Value.int .u8 b.toNat) := by
  apply VRels.of_get
  · simp
  · intro j x hx
    simp only [List.getElem?_map, Option.map_eq_some_iff] at hx ⊢
    obtain ⟨b, hb, rfl⟩ := hx
    exact ⟨_, ⟨b, hb, rfl⟩, by simp [VRel]⟩

theorem freeze_setBlk (w : World) (b : Nat) (cs : Array Value) (T : TypeId) (fr : Nat × Nat) (h : w.heap[b]? = some (.cells cs T fr)) :
    w.freeze ⟨b, cs.size, none⟩ 1 = setBlk w b (.cells cs T (if fr.1 == fr.2 then (cs.size, cs.size + 1) else (min fr.1 cs.size, max fr.2 (cs.size + 1)))) := by
  cases w with
  | mk heap tape drawn os output =>
    simp only [World.freeze, setBlk] at *
    rw [if_neg (by decide)]
    congr 1
    apply Array.ext_getElem?
    intro i
    rw [Array.getElem?_modify, Array.getElem?_setIfInBounds]
    by_cases c : b = i
    · subst c
      have hlt : b < heap.size := by
        rcases Nat.lt_or_ge b heap.size with h' | h'
        · exact h'
        · rw [Array.getElem?_eq_none h'] at h; cases h
      rw [if_pos rfl, h]
      obtain ⟨lo, hi⟩ := fr
      simp [hlt]
    · rw [if_neg c, if_neg c]

/-- behind a draw -/
theorem Rel.drew [Base] (hr : Rel P ρ H w) (n : Nat) : Rel P ρ H { w with drawn := n } := ⟨hr.obj, hr.inj, hr.rng, hr.nxt, hr.kept⟩
theorem Step.drew {at_ : Option Nat} (n : Nat) : Step at_ ρ H w ρ H { w with drawn := n } :=
  ⟨Ren.le_refl ρ, fun i e h h' => (by rw [h] at h'; cases h'), Nat.le_refl _, Nat.le_refl _, fun _ _ _ => rfl, fun i o e h l r _ => ⟨i, o, e, h, l, r, rfl⟩, rfl, rfl, rfl, fun _ _ h _ => h⟩

theorem freeze_push (w : World) (cs : Array Value) (e : TypeId) : (push w (.cells cs e)).freeze ⟨w.heap.size, cs.size, none⟩ 1 = push w (.cells cs e (cs.size, cs.size + 1)) := by
  cases w with
  | mk heap tape drawn os output =>
    simp only [World.freeze, push]
    rw [if_neg (by decide)]
    congr 1
    apply Array.ext_getElem?
    intro i
    rw [Array.getElem?_modify, Array.getElem?_push, Array.getElem?_push]
    by_cases c : i = heap.size
    · subst c; simp
    · rw [if_neg (fun h => c h.symm), if_neg c, if_neg c]

theorem stringToBytes_run [Base] (hr : Rel P ρ H w) {at_ : Option Nat} {e : TypeId} {s : ByteArray} {id : Nat} {H1 : Heap} (hat : ∀ i, at_ = some i → ρ i = none) (hs1 : sizeOf P e = some 1)
    (ha : H.alloc at_ (.cells (.ofList e true (s.data.toList.map fun b => .int .u8 b.toNat))) = some (id, H1)) :
    Made P at_ ρ H w (Conv.stringToBytes e s) (.slice (some (id, 0)) s.size s.size false) H1 := by
  let q : Question := .appendCap s.size 0 e
  let cap := q.cut (w.tape w.drawn q)
  have hcap : s.size ≤ cap := by show s.size ≤ s.size + _; omega
  let w1 : World := { w with drawn := w.drawn + 1 }
  let arr : Array Value := (s.data.map fun b => Value.int .u8 b.toNat) ++ Array.replicate (cap - s.size) (.int .u8 0)
  have harr : arr.size = cap := by simp only [arr, Array.size_append, Array.size_map, Array.size_replicate]; show s.size + (cap - s.size) = cap; omega
  have hrel := strBytes_rel (ρ := ρ) s
  have ho : ORel P ρ ⟨w1.heap.size, arr.size, 1⟩ (.cells (.ofList e true (s.data.toList.map fun b => .int .u8 b.toNat))) (some (.cells arr e (arr.size, arr.size + 1))) := by
    refine ⟨rfl, rfl, ?_, Or.inr (Nat.le_refl _), fun _ => hs1, fun k hk => ?_⟩
    · show (s.data.toList.map fun b => AV.int .u8 b.toNat).length ≤ _
      rw [harr]; simp only [List.length_map, Array.length_toList]; exact hcap
    · have hk : k < (s.data.toList.map fun b => AV.int .u8 b.toNat).length := hk
      obtain ⟨v, h1, h2⟩ := VRels.get _ _ k ((s.data.toList.map fun b => AV.int .u8 b.toNat)[k]) hrel (List.getElem?_eq_getElem hk)
      refine ⟨_, v, by rw [Blk.get_ofList]; exact List.getElem?_eq_getElem hk, ?_, h2⟩
      have hk' : k < (s.data.map fun b => Value.int .u8 b.toNat).size := by simpa using hk
      rw [Array.getElem?_append_left hk', ← Array.getElem?_toList, Array.toList_map]
      exact h1
  obtain ⟨h1, h2, h3⟩ := (hr.drew (w.drawn + 1)).alloc ha hat ho
  refine ⟨_, _, .slice (some ⟨w.heap.size, 0, none⟩) s.size cap, ?_, ?_, h1, (Step.drew (w.drawn + 1)).trans h2⟩
  · have hch : (choose q).run P w = .ok cap w1 := rfl
    have hsh : (push w1 (.cells arr e)).shape? w.heap.size = some (e, arr.size) := by
      simp only [World.shape?, push_heap]; rw [if_pos rfl]
    have hfz := freeze_push w1 arr e
    have hnew : (Go.newRow e arr).run P w1 = .ok ⟨w.heap.size, 0, none⟩ (push w1 (.cells arr e)) := rfl
    have hmk : (markStringish ⟨w.heap.size, 0, none⟩).run P (push w1 (.cells arr e)) = .ok () (push w1 (.cells arr e (arr.size, arr.size + 1))) := by
      simp only [markStringish, Sem.run_bind, run_shape, Result.andThen_ok, hsh, run_freeze]
      exact congrArg (Result.ok ()) hfz
    have hall : (Conv.stringToBytes e s).run P w = ((Go.newRow e arr).run P w1).andThen fun a w' => ((markStringish a).run P w').andThen fun _ w' => .ok (.slice (some a) s.size cap) w' := by
      simp only [Conv.stringToBytes, Sem.run_bind, show (choose (.appendCap s.size 0 e)).run P w = .ok cap w1 from hch, Result.andThen_ok, Sem.run_pure]
      rfl
    rw [hall, hnew, Result.andThen_ok, hmk]
    rfl
  · simp only [VRel]
    refine ⟨trivial, Nat.le_refl _, _, Ren.upd_same, rfl, hcap, ?_⟩
    simp only [Bool.false_eq_true, if_false]
    intro _; rw [harr]; omega

theorem convert_run [Base] (hr : Rel P ρ H w) {at_ : Option Nat} {src dst : TypeId} {x v : AV} {xv : Value} {H' : Heap} (hx : VRel ρ x xv) (hat : ∀ i, at_ = some i → ρ i = none)
    (h : convert P src dst x at_ H = some (v, H')) : Made P at_ ρ H w (Go.convert src dst xv) v H' := by
  unfold convert at h
  split at h
  · rename_i k0 k k1 n hs hd
    simp only [Option.some.injEq, Prod.mk.injEq] at h
    obtain ⟨rfl, rfl⟩ := h
    rw [int_rel hx]
    refine Gives.made hr (Gives.int ?_)
    simp [Go.convert, run_underlying hs, run_underlying hd, Conv.intToInt]
  · rename_i s hs hd
    simp only [Option.some.injEq, Prod.mk.injEq] at h
    obtain ⟨rfl, rfl⟩ := h
    rw [str_rel hx]
    refine Gives.made hr (Gives.str ?_)
    simp [Go.convert, run_underlying hs, run_underlying hd]
  · rename_i e s hs hd
    split at h
    · rename_i he
      split at h
      · rename_i hs1
        simp only [Option.bind_eq_some_iff] at h
        obtain ⟨⟨id, H1⟩, ha, h⟩ := h
        simp only [Option.some.injEq, Prod.mk.injEq] at h
        obtain ⟨rfl, rfl⟩ := h
        rw [str_rel hx]
        obtain ⟨ρ', w', u, h1, h2, h3, h4⟩ := stringToBytes_run hr hat hs1 ha
        exact ⟨ρ', w', u, by simp [Go.convert, run_underlying hs, run_underlying hd, run_underlying he, h1], h2, h3, h4⟩
      · cases h
    · cases h
  · rename_i e0 e p l c ex hs hd
    obtain ⟨id, off⟩ := p
    split at h
    · rename_i hsd
      split at h
      · rename_i he
        split at h
        · rename_i b hb
          simp only [Option.some.injEq, Prod.mk.injEq] at h
          obtain ⟨rfl, rfl⟩ := h
          cases xv <;> try (simp [VRel] at hx; done)
          rename_i a l' c'
          cases a with
          | none => simp [VRel] at hx
          | some a =>
            have hx0 := hx
            simp only [VRel] at hx
            obtain ⟨rfl, _, ent, hent, rfl, _⟩ := hx
            obtain ⟨e', cs, fr, he', hcs, hsz, hbn, hfr, hgsz, hget⟩ := hr.cells hb
            dsimp only at he' hent
            rw [hent] at he'; simp only [Option.some.injEq] at he'; subst he'
            have ho : ORel P ρ ent (.cells b) (some (.cells cs b.t (if fr.1 == fr.2 then (cs.size, cs.size + 1) else (min fr.1 cs.size, max fr.2 (cs.size + 1))))) := by
              refine ⟨rfl, hsz, hbn, ?_, hgsz, hget⟩
              split
              · exact Or.inr (Nat.le_refl _)
              · rename_i hne
                rcases hfr with hfr | hfr
                · simp [hfr] at hne
                · exact Or.inr (by show cs.size ≤ min fr.1 cs.size; omega)
            obtain ⟨h1, h2⟩ := hr.put hb trivial hent ho
            refine ⟨ρ, _, _, ?_, hx0, h1, h2.weaken⟩
            have hsh : w.shape? ent.blk = some (b.t, cs.size) := by simp [World.shape?, hcs]
            have hfz := freeze_setBlk w ent.blk cs b.t fr hcs
            simp only [Go.convert, run_underlying hs, run_underlying hd, run_underlying he, markStringish, Sem.run_bind, run_shape, Result.andThen_ok, hsh, run_freeze, hsd, Sem.run_pure, hfz]
        · cases h
      · cases h
    · cases h
  · rename_i e c ex hs hd
    split at h
    · rename_i he
      simp only [Option.some.injEq, Prod.mk.injEq] at h
      obtain ⟨rfl, rfl⟩ := h
      cases xv <;> try (simp [VRel] at hx; done)
      rename_i a l c'
      cases a with
      | some _ => simp [VRel] at hx
      | none =>
        refine Gives.made hr (Gives.str ?_)
        simp [Go.convert, run_underlying hs, run_underlying hd, run_underlying he, Conv.bytesToString]
    · cases h
  · rename_i e hs hd
    split at h
    · rename_i he
      simp only [Option.some.injEq, Prod.mk.injEq] at h
      obtain ⟨rfl, rfl⟩ := h
      cases xv <;> try (simp [VRel] at hx; done)
      rename_i a l c'
      cases a with
      | none => simp [VRel] at hx
      | some a =>
        simp only [VRel] at hx
        subst hx
        refine Gives.made hr (Gives.str ?_)
        simp [Go.convert, run_underlying hs, run_underlying hd, run_underlying he, Conv.bytesToString, Go.loadCells, Go.loadCellsFrom]
    · cases h
  · rename_i e id off len c ex hs hd
    split at h
    · rename_i he
      simp only [Option.bind_eq_some_iff, Option.some.injEq, Prod.mk.injEq] at h
      obtain ⟨cs, hcs, s, hss, rfl, rfl⟩ := h
      cases xv <;> try (simp [VRel] at hx; done)
      rename_i a l c'
      cases a with
      | none => simp [VRel] at hx
      | some a =>
        simp only [VRel] at hx
        obtain ⟨rfl, _, ent, hent, rfl, _⟩ := hx
        obtain ⟨us, hrun, hu, _⟩ := loadCells_run hr hcs ent hent
        refine Gives.made hr (Gives.str ?_)
        have := bytes_run (P := P) hu hss (hrun w rfl) c'
        simp [Go.convert, run_underlying hs, run_underlying hd, run_underlying he, this]
    · cases h
  · cases h

/-! maps -/

def kindOk (d : TypeDesc) (x : AV) : Prop := match d, x with | .int _, .int _ _ | .string, .str _ | .bool, .bool _ => True | _, _ => False

theorem basic_same {x y : AV} {xv yv : Value} {b : Bool} {d : TypeDesc} (hx : VRel ρ x xv) (hy : VRel ρ y yv) (h : sameKey x y = some b)
    (hd : kindOk d x) : Instr.sameNow d xv yv = some b := by
  unfold sameKey at h
  split at h
  · rename_i k a l c
    rw [int_rel hx, int_rel hy]
    by_cases hk : k = l
    · rw [if_pos hk] at h
      simp only [Option.some.injEq] at h; subst h
      cases d <;> simp_all [Instr.sameNow, kindOk]
    · rw [if_neg hk] at h; cases h
  · rw [str_rel hx, str_rel hy]
    simp only [Option.some.injEq] at h; subst h
    cases d <;> simp_all [Instr.sameNow, kindOk]
  · rw [bool_rel hx, bool_rel hy]
    simp only [Option.some.injEq] at h; subst h
    cases d <;> simp_all [Instr.sameNow, kindOk]
  · cases h

theorem findKey_run {k : AV} {kv : Value} {d : TypeDesc} (hk : VRel ρ k kv) (hd : kindOk d k) : ∀ (es : List (AV × AV)) (es' : List MapEntry) (i : Nat) (r : Option (Nat × AV)), ERel ρ es es' →
    findKey k es i = some r → ∃ r', Instr.findNow d kv es' i = some r' ∧
      (match r, r' with
       | none, none => True
       | some (j, v), some (j', v') => j = j' ∧ VRel ρ v v' ∧ i ≤ j ∧ ∃ k' e, es[j - i]? = some (k', v) ∧ es'[j - i]? = some e ∧ sameKey k k' = some true ∧ VRel ρ k' e.key
       | _, _ => False)
  | [], [], i, r, _, h => by simp only [findKey, Option.some.injEq] at h; subst h; exact ⟨none, rfl, trivial⟩
  | [], _ :: _, _, _, h, _ => by simp [ERel] at h
  | _ :: _, [], _, _, h, _ => by simp [ERel] at h
  | (x, v) :: es, e :: es', i, r, hr, h => by
    simp only [ERel] at hr
    obtain ⟨_, hx, hv, hes⟩ := hr
    simp only [findKey] at h
    split at h
    · rename_i hs
      simp only [Option.some.injEq] at h; subst h
      refine ⟨some (i, e.val), ?_, rfl, hv, Nat.le_refl _, x, e, by simp, by simp, hs, hx⟩
      simp only [Instr.findNow, basic_same hk hx hs hd]
    · rename_i hs
      obtain ⟨r', h1, h2⟩ := findKey_run hk hd es es' (i + 1) r hes h
      refine ⟨r', ?_, ?_⟩
      · simp only [Instr.findNow, basic_same hk hx hs hd]; exact h1
      · cases r with
        | none => cases r' with
          | none => trivial
          | some _ => exact h2
        | some p => cases r' with
          | none => exact h2
          | some p' =>
            obtain ⟨j, vv⟩ := p
            obtain ⟨j', vv'⟩ := p'
            simp only at h2 ⊢
            obtain ⟨e1, e2, e3, k', ee, e4, e5, e6, e7⟩ := h2
            refine ⟨e1, e2, by omega, k', ee, ?_, ?_, e6, e7⟩
            · have : j - i = (j - (i + 1)) + 1 := by omega
              rw [this]; simpa using e4
            · have : j - i = (j - (i + 1)) + 1 := by omega
              rw [this]; simpa using e5
    · cases h

theorem keyOk_spec {t : TypeId} {k : AV} (h : keyOk P t k = true) : ∃ d, P.underlying t = some d ∧ kindOk d k ∧ basicKey k = true := by
  unfold keyOk at h
  split at h
  · rename_i q _ _ hu; exact ⟨_, hu, trivial, rfl⟩
  · rename_i hu; exact ⟨_, hu, trivial, rfl⟩
  · rename_i hu; exact ⟨_, hu, trivial, rfl⟩
  · cases h

theorem checkKey_run' (n : Nat) {t : TypeId} {k : AV} {kv : Value} {d : TypeDesc} (em : Bool) (hk : VRel ρ k kv) (hu : P.underlying t = some d) (hd : kindOk d k) :
    (Instr.checkKey em (n + 1) t kv).run P w = .ok () w := by
  unfold kindOk at hd
  split at hd
  · rw [int_rel hk]; simp [Instr.checkKey, run_underlying hu]
  · rw [str_rel hk]; simp [Instr.checkKey, run_underlying hu]
  · rw [bool_rel hk]; simp [Instr.checkKey, run_underlying hu]
  · exact hd.elim

theorem checkKey_run {t : TypeId} {k : AV} {kv : Value} {d : TypeDesc} (em : Bool) (hk : VRel ρ k kv) (hu : P.underlying t = some d) (hd : kindOk d k) :
    (Instr.checkKey em 10000 t kv).run P w = .ok () w := checkKey_run' 9999 em hk hu hd

theorem ERel.length : ∀ (es : List (AV × AV)) (es' : List MapEntry), ERel ρ es es' → es.length = es'.length
  | [], [], _ => rfl
  | [], _ :: _, h => by simp [ERel] at h
  | _ :: _, [], h => by simp [ERel] at h
  | _ :: es, _ :: es', h => by simp only [ERel] at h; simp [ERel.length es es' h.2.2.2]

theorem ERel.append : ∀ (es : List (AV × AV)) (es' : List MapEntry) (fs : List (AV × AV)) (fs' : List MapEntry), ERel ρ es es' → ERel ρ fs fs' → ERel ρ (es ++ fs) (es' ++ fs')
  | [], [], _, _, _, h => by simpa using h
  | [], _ :: _, _, _, h, _ => by simp [ERel] at h
  | _ :: _, [], _, _, h, _ => by simp [ERel] at h
  | (k, v) :: es, e :: es', fs, fs', h, h' => by
    simp only [ERel, List.cons_append] at *
    exact ⟨h.1, h.2.1, h.2.2.1, ERel.append es es' fs fs' h.2.2.2 h'⟩

theorem ERel.modify {k v : AV} {kv vv : Value} (hb : basicKey k = true) (hk : VRel ρ k kv) (hv : VRel ρ v vv) : ∀ (i : Nat) (es : List (AV × AV)) (es' : List MapEntry), ERel ρ es es' →
    ERel ρ (es.modify i fun _ => (k, v)) (es'.modify i fun e => { e with key := kv, val := vv })
  | _, [], [], _ => by cases ‹Nat› <;> simp [ERel]
  | _, [], _ :: _, h => by simp [ERel] at h
  | _, _ :: _, [], h => by simp [ERel] at h
  | 0, (k', v') :: es, e :: es', h => by
    simp only [ERel, List.modify_zero_cons] at *
    exact ⟨hb, hk, hv, h.2.2.2⟩
  | i + 1, (k', v') :: es, e :: es', h => by
    simp only [ERel, List.modify_succ_cons] at *
    exact ⟨h.1, h.2.1, h.2.2.1, ERel.modify hb hk hv i es es' h.2.2.2⟩

theorem ERel.erase : ∀ (i : Nat) (es : List (AV × AV)) (es' : List MapEntry), ERel ρ es es' → ERel ρ (es.eraseIdx i) (es'.eraseIdx i)
  | _, [], [], _ => by simp [ERel]
  | _, [], _ :: _, h => by simp [ERel] at h
  | _, _ :: _, [], h => by simp [ERel] at h
  | 0, (k', v') :: es, e :: es', h => by simp only [ERel, List.eraseIdx_cons_zero] at *; exact h.2.2.2
  | i + 1, (k', v') :: es, e :: es', h => by
    simp only [ERel, List.eraseIdx_cons_succ] at *
    exact ⟨h.1, h.2.1, h.2.2.1, ERel.erase i es es' h.2.2.2⟩

theorem map_rel {r : Option Nat} {v : Value} (h : VRel ρ (.map r) v) : (r = none ∧ v = .map none) ∨ ∃ i e, r = some i ∧ ρ i = some e ∧ v = .map (some e.blk) := by
  cases v <;> try (cases r <;> simp [VRel] at h; done)
  rename_i q
  cases r with
  | none => cases q with
    | none => exact Or.inl ⟨rfl, rfl⟩
    | some _ => simp [VRel] at h
  | some i => cases q with
    | none => simp [VRel] at h
    | some q => simp only [VRel] at h; obtain ⟨e, he, rfl⟩ := h; exact Or.inr ⟨i, e, rfl, he, rfl⟩

theorem lookup_run [Base] (hr : Rel P ρ H w) {t : TypeId} {x k v : AV} {xv kv : Value} {ok : Bool} (hx : VRel ρ x xv) (hk : VRel ρ k kv) (h : lookup P t x k ok H = some v) :
    Gives P ρ w (Instr.lookup t xv kv ok) v := by
  unfold lookup at h
  split at h
  · rename_i kt e hu
    split at h
    · rename_i hko
      obtain ⟨d, hd, hkd, hbk⟩ := keyOk_spec hko
      simp only [Option.bind_eq_some_iff] at h
      obtain ⟨es, hes, r, hf, h⟩ := h
      -- the entries
      have hent : ∃ es' : Array MapEntry, ERel ρ es es'.toList ∧ ((xv = .map none ∧ es' = #[]) ∨ ∃ b c, xv = .map (some b) ∧ w.heap[b]? = some (.map es' c)) := by
        split at hes
        · simp only [Option.some.injEq] at hes; subst hes
          rcases map_rel hx with ⟨_, rfl⟩ | ⟨i, e, h1, _⟩
          · exact ⟨#[], by simp [ERel], Or.inl ⟨rfl, rfl⟩⟩
          · cases h1
        · rename_i r0
          split at hes
          · rename_i es0 hg
            simp only [Option.some.injEq] at hes; subst hes
            obtain ⟨e0, es', c, he0, hw, hrel⟩ := hr.map hg
            rcases map_rel hx with ⟨h1, _⟩ | ⟨i, e1, h1, h2, rfl⟩
            · cases h1
            · simp only [Option.some.injEq] at h1; subst h1
              rw [he0] at h2; simp only [Option.some.injEq] at h2; subst h2
              exact ⟨es', hrel, Or.inr ⟨e0.blk, c, rfl, hw⟩⟩
          · cases hes
        · cases hes
      obtain ⟨es', hrel, hxv⟩ := hent
      obtain ⟨r', hfn, hrr⟩ := findKey_run hk hkd es es'.toList 0 r hrel hf
      have hfk : (Instr.findKey kt kv es'.toList).run P w = .ok r' w := by simp [Instr.findKey, run_underlying hd, hfn]
      have hck : ∀ em, (Instr.checkKey em 10000 kt kv).run P w = .ok () w := fun em => checkKey_run em hk hd hkd
      have hhead : ∀ (K : Array MapEntry → Sem Value), ((match xv with
          | .map none => (pure #[] : Sem (Array MapEntry))
          | .map (some r) => do
            let .map es _ ← getObj r | stuck "Lookup: map expected"
            pure es
          | _ => stuck "Lookup: map expected") >>= K).run P w = (K es').run P w := by
        intro K
        rcases hxv with ⟨rfl, rfl⟩ | ⟨b, c, rfl, hw⟩
        · simp
        · simp [getObj, Sem.run, hw]
      cases r with
      | none =>
        cases r' with
        | some _ => exact hrr.elim
        | none =>
          simp only [Option.map_eq_some_iff] at h
          obtain ⟨z, hz, rfl⟩ := h
          obtain ⟨u, hzr, hu'⟩ := zero_run (P := P) (ρ := ρ) (w := w) hz
          refine ⟨if ok then .tuple #[u, .bool false] else u, ?_, ?_⟩
          · simp only [Instr.lookup, Sem.run_bind, run_underlying hu, Result.andThen_ok]
            rcases hxv with ⟨rfl, rfl⟩ | ⟨b, c, rfl, hw⟩
            · simp [hck, hfk, hzr]
            · simp [getObj, Sem.run, hw, hck, hfk, hzr]
          · cases ok <;> simp [VRel, VRels, hu']
      | some p =>
        obtain ⟨j, vv⟩ := p
        cases r' with
        | none => exact hrr.elim
        | some p' =>
          obtain ⟨j', u⟩ := p'
          simp only at hrr
          obtain ⟨_, hvu, _⟩ := hrr
          simp only [Option.some.injEq] at h
          subst h
          refine ⟨if ok then .tuple #[u, .bool true] else u, ?_, ?_⟩
          · simp only [Instr.lookup, Sem.run_bind, run_underlying hu, Result.andThen_ok]
            rcases hxv with ⟨rfl, rfl⟩ | ⟨b, c, rfl, hw⟩
            · simp [hck, hfk]
            · simp [getObj, Sem.run, hw, hck, hfk]
          · cases ok <;> simp [VRel, VRels, hvu]
    · cases h
  · cases h
end
end AE
/- The abstract evaluator: maps that are written, interface values, copies, appends. Conditions: none. -/
namespace AE
open Go

section
variable {P : Program} {ρ : Ren} {H : Heap} {w : World}

/-- how a step ends that lays something, and answers nothing -/
def Lays [Base] (P : Program) (ρ : Ren) (H : Heap) (w : World) (s : Sem Unit) (H' : Heap) : Prop :=
  ∃ w', s.run P w = .ok () w' ∧ Rel P ρ H' w' ∧ Step none ρ H w ρ H' w'

theorem setObj_run {b : Nat} {o o' : Obj} (h : w.heap[b]? = some o) (ho : ∀ c t f, o ≠ .cells c t f) : (Go.setObj b o').run P w = .ok () (setBlk w b o') := by
  simp only [Go.setObj, Sem.run, h]
  cases o <;> first | rfl | exact absurd rfl (ho _ _ _)

theorem getObj_run {b : Nat} {o : Obj} (h : w.heap[b]? = some o) (ho : ∀ c t f, o ≠ .cells c t f) : (Go.getObj b).run P w = .ok o w := by
  cases o <;> first | exact absurd rfl (ho _ _ _) | simp only [Go.getObj, Sem.run, h]

theorem sameBits_basic {k k' : AV} {kv ov : Value} (hk : VRel ρ k kv) (ho : VRel ρ k' ov) (h : sameKey k k' = some true) (n : Nat) : Instr.sameBits n ov kv = true := by
  unfold sameKey at h
  split at h
  · rename_i a b c d
    rw [int_rel hk, int_rel ho]
    by_cases e : a = c
    · subst e; simp only [if_true, Option.some.injEq, beq_iff_eq] at h; subst h; simp [Instr.sameBits]
    · rw [if_neg e] at h; cases h
  · rw [str_rel hk, str_rel ho]
    simp only [Option.some.injEq] at h
    rw [beq_toListBytes] at h
    have := eq_of_beq h
    unfold Instr.sameBits
    rw [beq_toListBytes, this]
    exact beq_self_eq_true _
  · rw [bool_rel hk, bool_rel ho]
    simp only [Option.some.injEq, beq_iff_eq] at h; subst h; simp [Instr.sameBits]
  · cases h

theorem mapUpdate_run [Base] (hr : Rel P ρ H w) {t : TypeId} {m k v : AV} {mv kv vv : Value} {H' : Heap} (hm : VRel ρ m mv) (hk : VRel ρ k kv) (hv : VRel ρ v vv)
    (h : mapUpdate P t m k v H = some H') : Lays P ρ H w (Instr.mapUpdate t mv kv vv) H' := by
  unfold mapUpdate at h
  split at h
  · rename_i kt e r hu
    split at h
    · rename_i hko
      obtain ⟨d, hd, hkd, hbk⟩ := keyOk_spec hko
      split at h
      · rename_i es hg
        obtain ⟨en, es', c, hen, hw, hrel⟩ := hr.map hg
        rcases map_rel hm with ⟨h1, _⟩ | ⟨i, e1, h1, h2, rfl⟩
        · cases h1
        simp only [Option.some.injEq] at h1; subst h1
        rw [hen] at h2; simp only [Option.some.injEq] at h2; subst h2
        simp only [Option.bind_eq_some_iff] at h
        obtain ⟨q, hf, h⟩ := h
        obtain ⟨q', hfn, hqq⟩ := findKey_run hk hkd es es'.toList 0 q hrel hf
        have hfk : (Instr.findKey kt kv es'.toList).run P w = .ok q' w := by simp [Instr.findKey, run_underlying hd, hfn]
        have hck := checkKey_run (P := P) (w := w) false hk hd hkd
        have hgo := getObj_run (P := P) hw (by simp)
        cases q with
        | none =>
          cases q' with
          | some _ => exact hqq.elim
          | none =>
            simp only [Option.some.injEq] at h; subst h
            have ho : ORel P ρ en (.map (es ++ [(k, v)])) (some (.map (es'.push { key := kv, val := vv, born := c }) (c + 1))) := by
              simp only [ORel, Array.toList_push]
              exact ERel.append _ _ _ _ hrel (by simp only [ERel]; exact ⟨hbk, hk, hv, trivial⟩)
            obtain ⟨h3, h4⟩ := hr.put hg trivial hen ho
            refine ⟨_, ?_, h3, h4⟩
            simp only [Instr.mapUpdate, Sem.run_bind, run_underlying hu, Result.andThen_ok, hgo, hck, hfk]
            exact setObj_run hw (by simp)
        | some p =>
          obtain ⟨j, ov⟩ := p
          cases q' with
          | none => exact hqq.elim
          | some p' =>
            obtain ⟨j', ov'⟩ := p'
            simp only at hqq
            obtain ⟨rfl, _, _, k', en', hk1, hk2, hk3, hk4⟩ := hqq
            simp only [Nat.sub_zero] at hk1 hk2
            simp only [Option.some.injEq] at h; subst h
            have ho : ORel P ρ en (.map (es.modify j fun _ => (k, v))) (some (.map (es'.modify j fun e => { e with key := kv, val := vv }) c)) := by
              simp only [ORel, Array.toList_modify]
              exact ERel.modify hbk hk hv j es es'.toList hrel
            obtain ⟨h3, h4⟩ := hr.put hg trivial hen ho
            refine ⟨_, ?_, h3, h4⟩
            have hold : ((es'[j]?).map (·.key)).getD kv = en'.key := by
              rw [← Array.getElem?_toList, hk2]; rfl
            have hks : (Instr.keyThatStays (((es'[j]?).map (·.key)).getD kv) kv).run P w = .ok kv w := by
              rw [hold]; simp [Instr.keyThatStays, sameBits_basic hk hk4 hk3 10000]
            simp only [Instr.mapUpdate, Sem.run_bind, run_underlying hu, Result.andThen_ok, hgo, hck, hfk, hks]
            exact setObj_run hw (by simp)
      · cases h
    · cases h
  · cases h

theorem mapDelete_run [Base] (hr : Rel P ρ H w) {t tk : TypeId} {ty : TypeId} {m k : AV} {mv kv : Value} {H' : Heap} (hm : VRel ρ m mv) (hk : VRel ρ k kv)
    (h : mapDelete P t m k H = some H') : ∃ w', (Builtin.delete_ #[t, tk] ty #[mv, kv]).run P w = .ok (.tuple #[]) w' ∧ Rel P ρ H' w' ∧ Step none ρ H w ρ H' w' := by
  unfold mapDelete at h
  split at h
  · rename_i kt e hu
    split at h
    · rename_i hko
      obtain ⟨d, hd, hkd, hbk⟩ := keyOk_spec hko
      have hck := fun em => checkKey_run (P := P) (w := w) em hk hd hkd
      split at h
      · simp only [Option.some.injEq] at h; subst h
        rcases map_rel hm with ⟨_, rfl⟩ | ⟨i, e1, h1, _⟩
        · exact ⟨w, by simp [Builtin.delete_, run_underlying hu, hck], hr, Step.refl ..⟩
        · cases h1
      · rename_i r
        split at h
        · rename_i es hg
          obtain ⟨en, es', c, hen, hw, hrel⟩ := hr.map hg
          rcases map_rel hm with ⟨h1, _⟩ | ⟨i, e1, h1, h2, rfl⟩
          · cases h1
          simp only [Option.some.injEq] at h1; subst h1
          rw [hen] at h2; simp only [Option.some.injEq] at h2; subst h2
          simp only [Option.bind_eq_some_iff] at h
          obtain ⟨q, hf, h⟩ := h
          obtain ⟨q', hfn, hqq⟩ := findKey_run hk hkd es es'.toList 0 q hrel hf
          have hfk : (Instr.findKey kt kv es'.toList).run P w = .ok q' w := by simp [Instr.findKey, run_underlying hd, hfn]
          have hgo := getObj_run (P := P) hw (by simp)
          cases q with
          | none =>
            cases q' with
            | some _ => exact hqq.elim
            | none =>
              simp only [Option.some.injEq] at h; subst h
              have hso := setObj_run (P := P) (o' := .map es' c) hw (by simp)
              rw [setBlk_self w _ _ hw] at hso
              exact ⟨w, by simp [Builtin.delete_, run_underlying hu, hck, hgo, hfk, hso], hr, Step.refl ..⟩
          | some p =>
            obtain ⟨j, ov⟩ := p
            cases q' with
            | none => exact hqq.elim
            | some p' =>
              obtain ⟨j', ov'⟩ := p'
              simp only at hqq
              obtain ⟨rfl, _⟩ := hqq
              simp only [Option.some.injEq] at h; subst h
              have ho : ORel P ρ en (.map (es.eraseIdx j)) (some (.map (es'.eraseIdxIfInBounds j) c)) := by
                simp only [ORel]
                have : (es'.eraseIdxIfInBounds j).toList = es'.toList.eraseIdx j := by
                  unfold Array.eraseIdxIfInBounds
                  split
                  · simp
                  · rename_i hn; rw [List.eraseIdx_of_length_le (by simpa using hn)]
                rw [this]
                exact ERel.erase j es es'.toList hrel
              obtain ⟨h3, h4⟩ := hr.put hg trivial hen ho
              refine ⟨_, ?_, h3, h4⟩
              have hso := setObj_run (P := P) (o' := .map (es'.eraseIdxIfInBounds j) c) hw (by simp)
              simp [Builtin.delete_, run_underlying hu, hck, hgo, hfk, hso]
        · cases h
      · cases h
    · cases h
  · cases h

theorem iface_rel {t : TypeId} {x : AV} {v : Value} (h : VRel ρ (.iface t x) v) : ∃ u, v = .iface t u ∧ VRel ρ x u := by
  cases v <;> try (simp [VRel] at h; done)
  simp only [VRel] at h
  obtain ⟨rfl, h⟩ := h
  exact ⟨_, rfl, h⟩

theorem typeAssert_run {x v : AV} {xv : Value} {xt a : TypeId} {ok : Bool} (hx : VRel ρ x xv) (h : typeAssert P x a ok = some v) : Gives P ρ w (Instr.typeAssert xv xt a ok) v := by
  unfold typeAssert at h
  split at h
  · cases h
  · rename_i d hd hu
    cases xv <;> try (simp [VRel] at hx; done)
    cases ok with
    | false => simp at h
    | true =>
      simp only [if_true, Option.map_eq_some_iff] at h
      obtain ⟨z, hz, rfl⟩ := h
      obtain ⟨u, hzr, hu'⟩ := zero_run (P := P) (ρ := ρ) (w := w) hz
      refine ⟨.tuple #[u, .bool false], ?_, by simp [VRel, VRels, hu']⟩
      cases d <;> first
        | exact absurd rfl (hd _)
        | simp [Instr.typeAssert, run_underlying hu, hzr]
  · rename_i d t y hd hu
    obtain ⟨u, rfl, hyu⟩ := iface_rel hx
    by_cases c : t = a
    · subst c
      simp only [if_true, Option.some.injEq] at h
      subst h
      refine ⟨if ok then .tuple #[u, .bool true] else u, ?_, by cases ok <;> simp [VRel, VRels, hyu]⟩
      cases d <;> first
        | exact absurd rfl (hd _)
        | (cases ok <;> simp [Instr.typeAssert, run_underlying hu])
    · rw [if_neg c] at h
      cases ok with
      | false => simp at h
      | true =>
        simp only [if_true, Option.map_eq_some_iff] at h
        obtain ⟨z, hz, rfl⟩ := h
        obtain ⟨uz, hzr, hu'⟩ := zero_run (P := P) (ρ := ρ) (w := w) hz
        refine ⟨.tuple #[uz, .bool false], ?_, by simp [VRel, VRels, hu']⟩
        cases d <;> first
          | exact absurd rfl (hd _)
          | simp [Instr.typeAssert, run_underlying hu, c, hzr]
  · cases h

theorem len_run [Base] (hr : Rel P ρ H w) {t ty : TypeId} {x v : AV} {xv : Value} (hx : VRel ρ x xv) (h : len P t x H = some v) : Gives P ρ w (Builtin.len_ #[t] ty #[xv]) v := by
  unfold len at h
  split at h
  · rename_i s hu
    rw [str_rel hx]
    simp only [Option.some.injEq] at h; subst h
    exact Gives.int (by simp [Builtin.len_, run_underlying hu, goInt])
  · rename_i n e hu
    simp only [Option.some.injEq] at h; subst h
    exact Gives.int (by simp [Builtin.len_, run_underlying hu, goInt])
  · rename_i e a n c ex hu
    simp only [Option.some.injEq] at h; subst h
    cases xv <;> try (cases a <;> simp [VRel] at hx; done)
    rename_i b l' c'
    have hl : n = l' := by
      cases a <;> cases b <;> simp only [VRel] at hx
      · exact hx.1
      · exact hx.1
    subst hl
    exact Gives.int (by simp [Builtin.len_, run_underlying hu, goInt])
  · rename_i e hu
    simp only [Option.some.injEq] at h; subst h
    cases xv <;> try (simp [VRel] at hx; done)
    rename_i b l' c'
    cases b with
    | none => simp [VRel] at hx
    | some b =>
      simp only [VRel] at hx; subst hx
      exact Gives.int (by simp [Builtin.len_, run_underlying hu, goInt])
  · rename_i k e hu
    simp only [Option.some.injEq] at h; subst h
    rcases map_rel hx with ⟨_, rfl⟩ | ⟨i, e1, h1, _⟩
    · exact Gives.int (by simp [Builtin.len_, run_underlying hu, goInt])
    · cases h1
  · rename_i k e r hu
    split at h
    · rename_i es hg
      simp only [Option.some.injEq] at h; subst h
      obtain ⟨en, es', c, hen, hw, hrel⟩ := hr.map hg
      rcases map_rel hx with ⟨h1, _⟩ | ⟨i, e1, h1, h2, rfl⟩
      · cases h1
      simp only [Option.some.injEq] at h1; subst h1
      rw [hen] at h2; simp only [Option.some.injEq] at h2; subst h2
      have hl := ERel.length _ _ hrel
      have hgo := getObj_run (P := P) hw (by simp)
      refine Gives.int ?_
      simp only [Builtin.len_, List.getElem?_toArray, List.getElem?_cons_zero, Sem.run_bind, run_underlying hu, Result.andThen_ok, hgo, Sem.run_pure, goInt]
      rw [hl]; simp
    · cases h
  · rename_i arr hu
    split at h
    · rename_i n e hua
      simp only [Option.some.injEq] at h; subst h
      exact Gives.int (by simp [Builtin.len_, run_underlying hu, run_underlying hua, goInt])
    · cases h
  · cases h
end
end AE

/- The abstract evaluator: appends and copies. Conditions: none. -/
namespace AE
open Go

section
variable {P : Program} {ρ : Ren} {H : Heap} {w : World}

theorem srcLen_run {x : AV} {xv : Value} {n : Nat} (hx : VRel ρ x xv) (h : srcLen x = some n) : (Builtin.lenOf xv).run P w = .ok n w := by
  unfold srcLen at h
  split at h
  · rename_i a l c ex
    simp only [Option.some.injEq] at h; subst h
    cases xv <;> try (cases a <;> simp [VRel] at hx; done)
    rename_i b l' c'
    have hl : l = l' := by
      cases a <;> cases b <;> simp only [VRel] at hx
      · exact hx.1
      · exact hx.1
    subst hl
    simp [Builtin.lenOf]
  · simp only [Option.some.injEq] at h; subst h
    cases xv <;> try (simp [VRel] at hx; done)
    rename_i b l' c'
    cases b with
    | none => simp [VRel] at hx
    | some b => simp only [VRel] at hx; subst hx; simp [Builtin.lenOf]
  · simp only [Option.some.injEq] at h; subst h
    rw [str_rel hx]; simp [Builtin.lenOf]
  · cases h

theorem srcCells_run [Base] (hr : Rel P ρ H w) {size n : Nat} {x : AV} {xv : Value} {new : List AV} (hx : VRel ρ x xv) (h : srcCells size n H x = some new) :
    ∃ us : List Value, (∀ w' : World, w'.heap = w.heap → (Builtin.firstCells size n xv).run P w' = .ok us.toArray w') ∧ VRels ρ new us ∧ us.length = n * size := by
  unfold srcCells at h
  split at h
  · rename_i id off l c ex
    cases xv <;> try (simp [VRel] at hx; done)
    rename_i b l' c'
    cases b with
    | none => simp [VRel] at hx
    | some ad =>
      simp only [VRel] at hx
      obtain ⟨_, _, e, he, rfl, _⟩ := hx
      obtain ⟨us, h1, h2, h3⟩ := loadCells_run hr h e he
      exact ⟨us, fun w' hw' => by simp [Builtin.firstCells, h1 w' hw'], h2, h3⟩
  · split at h
    · rename_i hn
      simp only [Option.some.injEq] at h; subst h
      cases xv <;> try (simp [VRel] at hx; done)
      rename_i b l' c'
      cases b with
      | some _ => simp [VRel] at hx
      | none => exact ⟨[], fun w' _ => by simp [Builtin.firstCells], by simp [VRels], by simp [hn]⟩
    · cases h
  · split at h
    · rename_i hn
      simp only [Option.some.injEq] at h; subst h
      cases xv <;> try (simp [VRel] at hx; done)
      rename_i b l' c'
      cases b with
      | none => simp [VRel] at hx
      | some _ => exact ⟨[], fun w' _ => by simp [Builtin.firstCells, hn, Go.loadCells, Go.loadCellsFrom], by simp [VRels], by simp [hn]⟩
    · cases h
  · rename_i s
    split at h
    · rename_i hc
      obtain ⟨hs1, hn⟩ := hc
      simp only [Option.some.injEq] at h; subst h
      rw [str_rel hx]
      refine ⟨(s.extract 0 n).data.toList.map fun b => .int .u8 b.toNat, ?_, strBytes_rel _, ?_⟩
      · intro w' _
        simp only [Builtin.firstCells, Sem.run_pure]
        congr 1
        apply Array.ext'
        simp
      · simp only [List.length_map, Array.length_toList, hs1, Nat.mul_one]
        have : (s.extract 0 n).size = n := by rw [ByteArray.size_extract]; omega
        exact this
    · cases h
  · cases h

theorem growBy_le (n : Nat) : ∀ (r c : Nat), c ≤ n + (n + 768) / 4 → Builtin.growBy n r c ≤ n + (n + 768) / 4
  | 0, c, h => by simpa [Builtin.growBy] using h
  | r + 1, c, h => by
    simp only [Builtin.growBy]
    split
    · exact h
    · exact growBy_le n r _ (by omega)

theorem nextcap_le {n c : Nat} (h : c < n) : Builtin.nextslicecap n c ≤ 2 * n + 1024 := by
  unfold Builtin.nextslicecap
  split
  · omega
  · split
    · omega
    · have := growBy_le n 4 c (by omega)
      omega

/-- the model's room beyond: cells of zeros -/
theorem zeroCells_size (zero : Array Value) (n : Nat) : (Builtin.zeroCells zero n).size = n * zero.size := by simp [Builtin.zeroCells]

/-- what is appended -/
theorem src_of [Base] (hr : Rel P ρ H w) {size n : Nat} {xt : TypeId} {x : AV} {xv : Value} {new : List AV} (hx : VRel ρ x xv) (hl : srcLen x = some n) (hc : srcCells size n H x = some new)
    (hk : (∃ e', P.underlying xt = some (.slice e')) ∨ P.underlying xt = some .string) (hf : ∀ v ∈ new, v.flat = true) : ∃ us, Src P size xt xv n us w ∧ VRels ρ new us := by
  obtain ⟨us, h1, h2, h3⟩ := srcCells_run hr hx hc
  refine ⟨us, ⟨hk, fun w' => srcLen_run hx hl, h1 w rfl, h1 w.drew rfl, h3, ?_⟩, h2⟩
  intro u hu
  obtain ⟨j, hj, rfl⟩ := List.mem_iff_getElem.1 hu
  have hlen := VRels.length _ _ h2
  obtain ⟨v, e1, e2⟩ := VRels.get new us j (new[j]'(by omega)) h2 (by simp)
  have : us[j] = v := by simpa [hj] using e1
  rw [this]
  exact flat_oneCell e2 (hf _ (List.getElem_mem _))

/-- The run of an append where there is room. -/
theorem append_room_run {t xt ty e : TypeId} {size n : Nat} {xv : Value} {ad : Addr} {sLen sCap : Nat} {news : List Value} {w' : World} (hu : P.underlying t = some (.slice e)) (hs : sizeOf P e = some size)
    (src : Src P size xt xv n news w) (hroom : sLen + n ≤ sCap) (hst : (Go.storeCells (ad.add (sLen * size)) news).run P w = .ok () w') :
    (Builtin.append_ #[t, xt] ty #[.slice (some ad) sLen sCap, xv]).run P w = .ok (.slice (some ad) (sLen + n) sCap) w' := by
  have hlen := src.len w
  have hcells := src.cells
  rcases src.kind with ⟨e', hk⟩ | hk <;> simp [Builtin.append_, run_underlying hu, run_underlying hk, sizeOf_run hs, hlen, hroom, hcells, hst]

theorem append_room_nil {t xt ty e : TypeId} {size n : Nat} {xv : Value} {sLen sCap : Nat} {news : List Value} (hu : P.underlying t = some (.slice e)) (hs : sizeOf P e = some size)
    (src : Src P size xt xv n news w) (hroom : sLen + n ≤ sCap) :
    (Builtin.append_ #[t, xt] ty #[.slice none sLen sCap, xv]).run P w = .ok (.slice none (sLen + n) sCap) w := by
  have hlen := src.len w
  have hcells := src.cells
  rcases src.kind with ⟨e', hk⟩ | hk <;> simp [Builtin.append_, run_underlying hu, run_underlying hk, sizeOf_run hs, hlen, hroom, hcells]

theorem flat_of_store {vs : List AV} {b b' : Blk} {off : Nat} (h : b.store off vs = some b') : ∀ v ∈ vs, v.flat = true := (Blk.store_spec vs b off b' h).2.2.2.2.1

/-- a new row behind an append that found no room -/
theorem append_new_run [Base] (hr : Rel P ρ H w) {t xt ty e : TypeId} {size by_ n : Nat} {xv : Value} {base : Option Addr} {sLen sCap : Nat} {old new : List AV} {olds : List Value} {id : Nat} {H' : Heap} {z : AV}
    (hu : P.underlying t = some (.slice e)) (hs : sizeOf P e = some size) (hb : bytesOf P e = some by_) (hz : zeroOf P e = some z) (hzl : z.cells.length = size)
    (src : ∃ us, Src P size xt xv n us w ∧ VRels ρ new us) (hold : ∀ w' : World, w'.heap = w.heap → (Builtin.firstCells size sLen (.slice base sLen sCap)).run P w' = .ok olds.toArray w') (holdr : VRels ρ old olds) (holdl : olds.length = sLen * size)
    (hcap : sCap < sLen + n) (hsm : (2 * (sLen + n) + 1024) * by_ ≤ 1099511627776) (hsm2 : 2 * (sLen + n) + 1024 ≤ 1099511627776)
    {b : Blk} (ha : H.alloc none (.cells b) = some (id, H')) (hbt : b.t = e) (hbn : b.n = (old ++ new).length) (hbget : ∀ j, j < (old ++ new).length → b.get j = (old ++ new)[j]?) :
    Made P none ρ H w (Builtin.append_ #[t, xt] ty #[.slice base sLen sCap, xv]) (.slice (some (id, 0)) (sLen + n) (sLen + n) false) H' := by
  obtain ⟨news, src, hnr⟩ := src
  obtain ⟨i, hi, hib⟩ := bytesOf_info hb
  obtain ⟨i', hi', his⟩ := info_of_size hs
  rw [hi] at hi'; simp only [Option.some.injEq] at hi'; subst hi'
  obtain ⟨it, zv, hit, hzv, hzr, hzc⟩ := zeroCells_of (ρ := ρ) hz
  rw [hi] at hit; simp only [Option.some.injEq] at hit; subst hit
  have hzs : zv.cells.size = size := by have := VRels.length _ _ hzc; simp only [Array.length_toList] at this; omega
  have hfit : Builtin.nextslicecap (sLen + n) sCap * i.bytes ≤ 281474976710656 := by
    have h1 := nextcap_le hcap
    have h2 : Builtin.nextslicecap (sLen + n) sCap * i.bytes ≤ (2 * (sLen + n) + 1024) * i.bytes := Nat.mul_le_mul_right _ h1
    rw [hib] at h2 ⊢; omega
  subst his
  have hrun := run_append_grow_src w t xt ty e i zv hu hi hzv base sLen sCap olds (hold w.drew rfl) xv n news src hcap (by omega) hfit
  have hcapge : sLen + n ≤ grownCap w (sLen + n) sCap e := by show sLen + n ≤ (sLen + n) + _; omega
  have harr : ((olds ++ news).toArray ++ Builtin.zeroCells zv.cells (grownCap w (sLen + n) sCap e - (sLen + n))) =
      ((olds ++ news) ++ (Builtin.zeroCells zv.cells (grownCap w (sLen + n) sCap e - (sLen + n))).toList).toArray := by
    apply Array.ext'; simp
  have hrel := VRels.append _ _ _ _ holdr hnr
  subst hbt
  obtain ⟨ρ', h1, h2, h3, h4, h5⟩ := newRow_run_b (P := P) (sz := i.size) (extra := (Builtin.zeroCells zv.cells (grownCap w (sLen + n) sCap b.t - (sLen + n))).toList) (hr.drew (w.drawn + 1)) ha hbn hbget (by simp) hrel (fun _ => hs)
  refine ⟨ρ', _, _, hrun, ?_, ?_, ?_⟩
  · simp only [VRel]
    refine ⟨trivial, Nat.le_refl _, _, h2, rfl, hcapge, ?_⟩
    simp only [Bool.false_eq_true, if_false]
    intro _
    have hnl := src.newsLen
    simp only [List.length_append, Array.length_toList, zeroCells_size, holdl, hnl, hzs]
    rw [← Nat.add_mul, ← Nat.add_mul]
    exact Nat.mul_le_mul_right _ (by omega)
  · rw [harr]; exact h4
  · rw [harr]; exact (Step.drew (w.drawn + 1)).trans h5

theorem allFlat_spec : ∀ (vs : List AV), allFlat vs = true → ∀ v ∈ vs, v.flat = true
  | [], _, v, hv => by simp at hv
  | x :: xs, h, v, hv => by
    simp only [allFlat, Bool.and_eq_true] at h
    rcases List.mem_cons.1 hv with rfl | hv
    · exact h.1
    · exact allFlat_spec xs h.2 v hv

theorem firstCells_old {size len sc : Nat} {ad : Addr} {olds : List Value} (h : ∀ w' : World, w'.heap = w.heap → (Go.loadCells ad (len * size)).run P w' = .ok olds.toArray w') :
    ∀ w' : World, w'.heap = w.heap → (Builtin.firstCells size len (.slice (some ad) len sc)).run P w' = .ok olds.toArray w' := by
  intro w' hw'
  simp [Builtin.firstCells, h w' hw']

theorem moved_get {b b1 b' : Blk} {new : List AV} {len n size : Nat} (hnewl : new.length = n * size) (hneed : (len + n) * size = len * size + n * size)
    (hbget : ∀ j, j < len * size → b1.get j = b.get j) (hin : ∀ j, j < len * size → ∃ x, b.get j = some x)
    (st6 : ∀ k, b'.get k = if len * size ≤ k ∧ k < len * size + new.length then new[k - len * size]? else b1.get k) (_hnn : b'.n = (len + n) * size) :
    ∀ j, j < ((List.range (len * size)).map (fun j => (b.get j).getD .undef) ++ new).length → b'.get j = ((List.range (len * size)).map (fun j => (b.get j).getD .undef) ++ new)[j]? := by
  intro j hj
  rw [List.length_append, List.length_map, List.length_range] at hj
  rw [st6]
  by_cases c : len * size ≤ j
  · rw [if_pos (by omega), List.getElem?_append_right (by simp; omega), List.length_map, List.length_range]
  · have c' : j < len * size := by omega
    rw [if_neg (by omega), List.getElem?_append_left (by simp; omega), hbget j c']
    obtain ⟨x, hx⟩ := hin j c'
    simp [hx, c']

set_option maxHeartbeats 1000000 in
theorem append_run [Base] (hr : Rel P ρ H w) {t xt ty : TypeId} {s x v : AV} {sv xv : Value} {H' : Heap} (hs : VRel ρ s sv) (hx : VRel ρ x xv) (h : append P t xt s x H = some (v, H')) :
    Made P none ρ H w (Builtin.append_ #[t, xt] ty #[sv, xv]) v H' := by
  unfold append at h
  split at h
  · rename_i e xd hu hxu
    split at h
    · cases h
    · rename_i hxd
      have hk : (∃ e', P.underlying xt = some (.slice e')) ∨ P.underlying xt = some .string := by
        cases xd <;> first
          | (exact absurd rfl hxd; done)
          | exact Or.inl ⟨_, hxu⟩
          | exact Or.inr hxu
      simp only [Option.bind_eq_some_iff] at h
      obtain ⟨size, hsz, by_, hby, n, hn, new, hnew, h⟩ := h
      split at h
      · rename_i base len cap ex
        cases sv with
        | slice sb sl sc =>
          by_cases hroom : len + n ≤ cap
          · -- there is room
            rw [if_pos hroom] at h
            cases base with
            | none =>
              cases sb with
              | some _ => simp [VRel] at hs
              | none =>
                simp only [VRel] at hs
                obtain ⟨rfl, rfl, rfl, hlc⟩ := hs
                dsimp only at h
                split at h
                · rename_i hn0
                  simp only [Option.some.injEq, Prod.mk.injEq] at h
                  obtain ⟨rfl, rfl⟩ := h
                  have hnil : new = [] := by
                    obtain ⟨us, _, h2, h3⟩ := srcCells_run hr hx hnew
                    apply List.eq_nil_of_length_eq_zero
                    rw [VRels.length _ _ h2, h3, hn0]; simp
                  obtain ⟨us, src, _⟩ := src_of hr hx hn hnew hk (by rw [hnil]; simp)
                  exact ⟨ρ, w, _, append_room_nil hu hsz src hroom, by simp only [VRel]; exact ⟨trivial, trivial, trivial, hroom⟩, hr, Step.refl ..⟩
                · cases h
            | some p =>
              obtain ⟨id, off⟩ := p
              cases sb with
              | none => simp [VRel] at hs
              | some ad =>
                simp only [VRel] at hs
                obtain ⟨rfl, hlc, ent, he, rfl, hcc, hex⟩ := hs
                simp only [Option.bind_eq_some_iff, Option.some.injEq, Prod.mk.injEq] at h
                obtain ⟨H1, hst, rfl, rfl⟩ := h
                have hflat : ∀ v ∈ new, v.flat = true := by
                  unfold storeCells at hst
                  split at hst
                  · simp only [Option.bind_eq_some_iff] at hst
                    obtain ⟨b', hb', _⟩ := hst
                    exact flat_of_store hb'
                  · cases hst
                obtain ⟨us, src, hur⟩ := src_of hr hx hn hnew hk hflat
                obtain ⟨w', hrun, h1, h2⟩ := storeCells_run hr hst hur ent he
                refine ⟨ρ, w', _, append_room_run hu hsz src (by omega) (by rw [add_none]; exact hrun), ?_, h1, h2⟩
                simp only [VRel]
                exact ⟨trivial, hroom, ent, he, rfl, hcc, hex⟩
          · -- there is none that is known
            rw [if_neg hroom] at h
            split at h
            · rename_i hc
              obtain ⟨hsm, hsm2, hzz, hfl⟩ := hc
              have hflat := allFlat_spec new hfl
              obtain ⟨z, hz, hzl⟩ : ∃ z, zeroOf P e = some z ∧ z.cells.length = size := by
                cases hz : zeroOf P e with
                | none => rw [hz] at hzz; simp at hzz
                | some z => rw [hz] at hzz; simp only [Option.any_some, beq_iff_eq] at hzz; exact ⟨z, rfl, hzz⟩
              have src := src_of hr hx hn hnew hk hflat
              cases base with
              | none =>
                cases sb with
                | some _ => simp [VRel] at hs
                | none =>
                  simp only [VRel] at hs
                  obtain ⟨rfl, rfl, rfl, hlc⟩ := hs
                  dsimp only at h
                  split at h
                  · rename_i hc0
                    simp only [Bool.true_and, beq_iff_eq] at hc0
                    subst hc0
                    simp only [Option.bind_eq_some_iff] at h
                    obtain ⟨⟨id, H1⟩, ha, h⟩ := h
                    simp only [Option.some.injEq, Prod.mk.injEq] at h
                    obtain ⟨rfl, rfl⟩ := h
                    exact append_new_run (old := []) (olds := []) hr hu hsz hby hz hzl src (fun w' _ => by simp [Builtin.firstCells]) (by simp [VRels]) (by simp) (by omega) hsm hsm2 ha rfl rfl (fun j _ => Blk.get_ofList ..)
                  · cases h
              | some p =>
                obtain ⟨id, off⟩ := p
                cases sb with
                | none => simp [VRel] at hs
                | some ad =>
                  simp only [VRel] at hs
                  obtain ⟨rfl, hlc, ent, he, rfl, hcc, hex⟩ := hs
                  dsimp only at h
                  cases ex with
                  | true =>
                    simp only [if_true] at h hex
                    subst hex
                    simp only [Option.bind_eq_some_iff] at h
                    obtain ⟨old, hold, ⟨id', H1⟩, ha, h⟩ := h
                    simp only [Option.some.injEq, Prod.mk.injEq] at h
                    obtain ⟨rfl, rfl⟩ := h
                    obtain ⟨olds, ho1, ho2, ho3⟩ := loadCells_run hr hold ent he
                    exact append_new_run hr hu hsz hby hz hzl src (fun w' hw' => by simp [Builtin.firstCells, ho1 w' hw']) ho2 ho3 (by omega) hsm hsm2 ha rfl rfl (fun j _ => Blk.get_ofList ..)
                  | false =>
                    simp only [Bool.false_eq_true, if_false] at h hex
                    unfold grown at h
                    split at h
                    · rename_i b hg
                      split at h
                      · rename_i hcond
                        simp only [Bool.and_eq_true, beq_iff_eq] at hcond
                        obtain ⟨⟨⟨hbg, hoff⟩, hlb⟩, hbt⟩ := hcond
                        have hlb : len * size ≤ b.n := Nat.le_of_ble_eq_true hlb
                        subst hoff
                        simp only [Option.bind_eq_some_iff] at h
                        obtain ⟨b', hst, ⟨id', H1⟩, ha, h⟩ := h
                        simp only [Option.some.injEq, Prod.mk.injEq] at h
                        obtain ⟨rfl, rfl⟩ := h
                        obtain ⟨e', cs, fr, he', hcs, hcsz, hbn, hfr, hgsz, hget⟩ := hr.cells hg
                        rw [he] at he'; simp only [Option.some.injEq] at he'; subst he'
                        have hentsz : ent.sz = size := by
                          have := hgsz hbg
                          rw [hbt, hsz] at this
                          simpa using this.symm
                        have hroomc : sc * size ≤ cs.size := by have := hex rfl; rw [hentsz] at this; omega
                        obtain ⟨news, src, hnr⟩ := src
                        have hnl := src.newsLen
                        have hnewl : new.length = n * size := by rw [VRels.length _ _ hnr, hnl]
                        obtain ⟨st1, st2, st3, st4, st5, st6⟩ := Blk.store_spec new _ _ _ hst
                        have hneed : (len + n) * size = len * size + n * size := Nat.add_mul ..
                        have hbget : ∀ j, j < len * size → Blk.get { b with n := (len + n) * size } j = b.get j := by
                          intro j hj
                          have hj1 : j < (len + n) * size := by omega
                          have hj2 : j < b.n := by omega
                          unfold Blk.get
                          dsimp only
                          rw [if_pos hj1, if_pos hj2]
                        by_cases hin : len + n ≤ sc
                        · -- it lies where it lay
                          have hneedc : (len + n) * size ≤ cs.size := Nat.le_trans (Nat.mul_le_mul_right _ hin) hroomc
                          have hone := src.one
                          obtain ⟨cs', hrun, hcs', hval⟩ := run_storeCells' (P := P) news ent.blk (len * size) 0 w cs b.t fr hcs (Or.inr (by omega)) hfr.free hone
                          have ho : ORel P ρ ent (.cells b') (some (.cells cs' b.t fr)) := by
                            refine ⟨st1.symm, by omega, by rw [st3]; show (len + n) * size ≤ _; omega, hfr.of_eq (by omega), fun hg' => ?_, fun k hk => ?_⟩
                            · rw [st1]; show sizeOf P b.t = _; rw [hbt, hsz, hentsz]
                            · rw [st3] at hk
                              have hk : k < (len + n) * size := hk
                              rw [st6, hval]
                              by_cases c : len * size ≤ k
                              · rw [if_pos (by omega), if_pos (by omega)]
                                have hj : k - len * size < new.length := by omega
                                obtain ⟨u, g1, g2⟩ := VRels.get new news (k - len * size) (new[k - len * size]) hnr (by simp)
                                exact ⟨_, u, by simp, by simpa using g1, g2⟩
                              · rw [if_neg (by omega), if_neg (by omega), hbget k (by omega)]
                                exact hget k (by omega)
                          obtain ⟨h1, h2, h3⟩ := hr.move hg trivial he ha ho
                          refine ⟨_, _, _, append_room_run hu hsz src hin (by rw [add_none, Nat.zero_add]; exact hrun), ?_, h1, h2⟩
                          simp only [VRel]
                          refine ⟨trivial, Nat.le_refl _, ent, Ren.upd_same, rfl, hin, ?_⟩
                          simp only [Bool.false_eq_true, if_false]
                          intro _; exact hex rfl
                        · -- it moves
                          have hk2 := hr.kill id
                          have hs2 : Step none ρ H w ρ (H.put id .gone) w := Step.kill id
                          have hold : loadCells H id 0 (len * size) = some ((List.range (len * size)).map fun j => (b.get j).getD .undef) := by
                            unfold loadCells
                            rw [hg]
                            dsimp only
                            simpa using Blk.load_range b 0 (len * size) (fun j hj => by obtain ⟨x, _, hx, _⟩ := hget j (by omega); exact ⟨x, by rw [Nat.zero_add]; exact hx⟩)
                          obtain ⟨olds, ho1, ho2, ho3⟩ := loadCells_run hr hold ent he
                          have hnn : b'.n = (len + n) * size := st3
                          obtain ⟨ρ', w', u, h1, h2, h3, h4⟩ := append_new_run (ty := ty) hk2 hu hsz hby hz hzl ⟨news, src, hnr⟩
                            (firstCells_old (fun w' hw' => ho1 w' hw')) ho2 ho3 (Nat.lt_of_not_le hin) hsm hsm2 ha (by rw [st1]; exact hbt) (by rw [hnn, List.length_append, List.length_map, List.length_range, hnewl]; exact hneed)
                            (moved_get hnewl hneed hbget (fun j hj => by obtain ⟨x, _, hx, _⟩ := hget j (by omega); exact ⟨x, hx⟩) st6 hnn)
                          exact ⟨ρ', w', u, h1, h2, h3, hs2.trans h4⟩
                      · cases h
                    · cases h
            · cases h
        | _ => cases base <;> simp [VRel] at hs
      · -- of nothing
        split at h
        · rename_i hn0
          simp only [Option.some.injEq, Prod.mk.injEq] at h
          obtain ⟨rfl, rfl⟩ := h
          subst hn0
          cases sv with
          | slice sb sl sc =>
            cases sb with
            | none => simp [VRel] at hs
            | some ad =>
              simp only [VRel] at hs
              subst hs
              have hnil : new = [] := by
                obtain ⟨us, _, h2, h3⟩ := srcCells_run hr hx hnew
                apply List.eq_nil_of_length_eq_zero
                rw [VRels.length _ _ h2, h3]; simp
              obtain ⟨us, src, hur⟩ := src_of hr hx hn hnew hk (by rw [hnil]; simp)
              have hus : us = [] := by rw [hnil] at hur; cases us with | nil => rfl | cons _ _ => simp [VRels] at hur
              subst hus
              refine ⟨ρ, w, _, append_room_run hu hsz src (Nat.zero_le _) (by simp [Go.storeCells]), by simp [VRel], hr, Step.refl ..⟩
          | _ => simp [VRel] at hs
        · cases h
      · cases h
  · cases h
end
end AE
