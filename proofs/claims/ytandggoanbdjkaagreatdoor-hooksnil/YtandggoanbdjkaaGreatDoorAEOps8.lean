/- The abstract evaluator: appends and copies. Conditions: none. -/
import Derived.Test.YtandggoanbdjkaaGreatDoorAEOps7
import Derived.Deep.AppendSrc
namespace AE
open Go

section
variable {P : Program} {ρ : Ren} {H : Heap} {w : World}

theorem srcLen_run {x : AV} {xv : Value} {n : Nat} (hx : VRel ρ x xv) (h : srcLen x = some n) : (Builtin.lenOf xv).run P w = .ok n w := by
  unfold srcLen at h
  split at h
  · rename_i a l c ex
    simp only [Option.some.injEq] at h; subst h
    cases xv <;> try (cases a <;> simp [VRel] at hx; done)
    rename_i b l' c'
    have hl : l = l' := by
      cases a <;> cases b <;> simp only [VRel] at hx
      · exact hx.1
      · exact hx.1
    subst hl
    simp [Builtin.lenOf]
  · simp only [Option.some.injEq] at h; subst h
    cases xv <;> try (simp [VRel] at hx; done)
    rename_i b l' c'
    cases b with
    | none => simp [VRel] at hx
    | some b => simp only [VRel] at hx; subst hx; simp [Builtin.lenOf]
  · simp only [Option.some.injEq] at h; subst h
    rw [str_rel hx]; simp [Builtin.lenOf]
  · cases h

theorem srcCells_run [Base] (hr : Rel P ρ H w) {size n : Nat} {x : AV} {xv : Value} {new : List AV} (hx : VRel ρ x xv) (h : srcCells size n H x = some new) :
    ∃ us : List Value, (∀ w' : World, w'.heap = w.heap → (Builtin.firstCells size n xv).run P w' = .ok us.toArray w') ∧ VRels ρ new us ∧ us.length = n * size := by
  unfold srcCells at h
  split at h
  · rename_i id off l c ex
    cases xv <;> try (simp [VRel] at hx; done)
    rename_i b l' c'
    cases b with
    | none => simp [VRel] at hx
    | some ad =>
      simp only [VRel] at hx
      obtain ⟨_, _, e, he, rfl, _⟩ := hx
      obtain ⟨us, h1, h2, h3⟩ := loadCells_run hr h e he
      exact ⟨us, fun w' hw' => by simp [Builtin.firstCells, h1 w' hw'], h2, h3⟩
  · split at h
    · rename_i hn
      simp only [Option.some.injEq] at h; subst h
      cases xv <;> try (simp [VRel] at hx; done)
      rename_i b l' c'
      cases b with
      | some _ => simp [VRel] at hx
      | none => exact ⟨[], fun w' _ => by simp [Builtin.firstCells], by simp [VRels], by simp [hn]⟩
    · cases h
  · split at h
    · rename_i hn
      simp only [Option.some.injEq] at h; subst h
      cases xv <;> try (simp [VRel] at hx; done)
      rename_i b l' c'
      cases b with
      | none => simp [VRel] at hx
      | some _ => exact ⟨[], fun w' _ => by simp [Builtin.firstCells, hn, Go.loadCells, Go.loadCellsFrom], by simp [VRels], by simp [hn]⟩
    · cases h
  · rename_i s
    split at h
    · rename_i hc
      obtain ⟨hs1, hn⟩ := hc
      simp only [Option.some.injEq] at h; subst h
      rw [str_rel hx]
      refine ⟨(s.extract 0 n).data.toList.map fun b => .int .u8 b.toNat, ?_, strBytes_rel _, ?_⟩
      · intro w' _
        simp only [Builtin.firstCells, Sem.run_pure]
        congr 1
        apply Array.ext'
        simp
      · simp only [List.length_map, Array.length_toList, hs1, Nat.mul_one]
        have : (s.extract 0 n).size = n := by rw [ByteArray.size_extract]; omega
        exact this
    · cases h
  · cases h

theorem growBy_le (n : Nat) : ∀ (r c : Nat), c ≤ n + (n + 768) / 4 → Builtin.growBy n r c ≤ n + (n + 768) / 4
  | 0, c, h => by simpa [Builtin.growBy] using h
  | r + 1, c, h => by
    simp only [Builtin.growBy]
    split
    · exact h
    · exact growBy_le n r _ (by omega)

theorem nextcap_le {n c : Nat} (h : c < n) : Builtin.nextslicecap n c ≤ 2 * n + 1024 := by
  unfold Builtin.nextslicecap
  split
  · omega
  · split
    · omega
    · have := growBy_le n 4 c (by omega)
      omega

/-- the model's room beyond: cells of zeros -/
theorem zeroCells_size (zero : Array Value) (n : Nat) : (Builtin.zeroCells zero n).size = n * zero.size := by simp [Builtin.zeroCells]

/-- what is appended -/
theorem src_of [Base] (hr : Rel P ρ H w) {size n : Nat} {xt : TypeId} {x : AV} {xv : Value} {new : List AV} (hx : VRel ρ x xv) (hl : srcLen x = some n) (hc : srcCells size n H x = some new)
    (hk : (∃ e', P.underlying xt = some (.slice e')) ∨ P.underlying xt = some .string) (hf : ∀ v ∈ new, v.flat = true) : ∃ us, Src P size xt xv n us w ∧ VRels ρ new us := by
  obtain ⟨us, h1, h2, h3⟩ := srcCells_run hr hx hc
  refine ⟨us, ⟨hk, fun w' => srcLen_run hx hl, h1 w rfl, h1 w.drew rfl, h3, ?_⟩, h2⟩
  intro u hu
  obtain ⟨j, hj, rfl⟩ := List.mem_iff_getElem.1 hu
  have hlen := VRels.length _ _ h2
  obtain ⟨v, e1, e2⟩ := VRels.get new us j (new[j]'(by omega)) h2 (by simp)
  have : us[j] = v := by simpa [hj] using e1
  rw [this]
  exact flat_oneCell e2 (hf _ (List.getElem_mem _))

/-- The run of an append where there is room. -/
theorem append_room_run {t xt ty e : TypeId} {size n : Nat} {xv : Value} {ad : Addr} {sLen sCap : Nat} {news : List Value} {w' : World} (hu : P.underlying t = some (.slice e)) (hs : sizeOf P e = some size)
    (src : Src P size xt xv n news w) (hroom : sLen + n ≤ sCap) (hst : (Go.storeCells (ad.add (sLen * size)) news).run P w = .ok () w') :
    (Builtin.append_ #[t, xt] ty #[.slice (some ad) sLen sCap, xv]).run P w = .ok (.slice (some ad) (sLen + n) sCap) w' := by
  have hlen := src.len w
  have hcells := src.cells
  rcases src.kind with ⟨e', hk⟩ | hk <;> simp [Builtin.append_, run_underlying hu, run_underlying hk, sizeOf_run hs, hlen, hroom, hcells, hst]

theorem append_room_nil {t xt ty e : TypeId} {size n : Nat} {xv : Value} {sLen sCap : Nat} {news : List Value} (hu : P.underlying t = some (.slice e)) (hs : sizeOf P e = some size)
    (src : Src P size xt xv n news w) (hroom : sLen + n ≤ sCap) :
    (Builtin.append_ #[t, xt] ty #[.slice none sLen sCap, xv]).run P w = .ok (.slice none (sLen + n) sCap) w := by
  have hlen := src.len w
  have hcells := src.cells
  rcases src.kind with ⟨e', hk⟩ | hk <;> simp [Builtin.append_, run_underlying hu, run_underlying hk, sizeOf_run hs, hlen, hroom, hcells]

theorem flat_of_store {vs : List AV} {b b' : Blk} {off : Nat} (h : b.store off vs = some b') : ∀ v ∈ vs, v.flat = true := (Blk.store_spec vs b off b' h).2.2.2.2.1

/-- a new row behind an append that found no room -/
theorem append_new_run [Base] (hr : Rel P ρ H w) {t xt ty e : TypeId} {size by_ n : Nat} {xv : Value} {base : Option Addr} {sLen sCap : Nat} {old new : List AV} {olds : List Value} {id : Nat} {H' : Heap} {z : AV}
    (hu : P.underlying t = some (.slice e)) (hs : sizeOf P e = some size) (hb : bytesOf P e = some by_) (hz : zeroOf P e = some z) (hzl : z.cells.length = size)
    (src : ∃ us, Src P size xt xv n us w ∧ VRels ρ new us) (hold : ∀ w' : World, w'.heap = w.heap → (Builtin.firstCells size sLen (.slice base sLen sCap)).run P w' = .ok olds.toArray w') (holdr : VRels ρ old olds) (holdl : olds.length = sLen * size)
    (hcap : sCap < sLen + n) (hsm : (2 * (sLen + n) + 1024) * by_ ≤ 1099511627776) (hsm2 : 2 * (sLen + n) + 1024 ≤ 1099511627776)
    {b : Blk} (ha : H.alloc none (.cells b) = some (id, H')) (hbt : b.t = e) (hbn : b.n = (old ++ new).length) (hbget : ∀ j, j < (old ++ new).length → b.get j = (old ++ new)[j]?) :
    Made P none ρ H w (Builtin.append_ #[t, xt] ty #[.slice base sLen sCap, xv]) (.slice (some (id, 0)) (sLen + n) (sLen + n) false) H' := by
  obtain ⟨news, src, hnr⟩ := src
  obtain ⟨i, hi, hib⟩ := bytesOf_info hb
  obtain ⟨i', hi', his⟩ := info_of_size hs
  rw [hi] at hi'; simp only [Option.some.injEq] at hi'; subst hi'
  obtain ⟨it, zv, hit, hzv, hzr, hzc⟩ := zeroCells_of (ρ := ρ) hz
  rw [hi] at hit; simp only [Option.some.injEq] at hit; subst hit
  have hzs : zv.cells.size = size := by have := VRels.length _ _ hzc; simp only [Array.length_toList] at this; omega
  have hfit : Builtin.nextslicecap (sLen + n) sCap * i.bytes ≤ 281474976710656 := by
    have h1 := nextcap_le hcap
    have h2 : Builtin.nextslicecap (sLen + n) sCap * i.bytes ≤ (2 * (sLen + n) + 1024) * i.bytes := Nat.mul_le_mul_right _ h1
    rw [hib] at h2 ⊢; omega
  subst his
  have hrun := run_append_grow_src w t xt ty e i zv hu hi hzv base sLen sCap olds (hold w.drew rfl) xv n news src hcap (by omega) hfit
  have hcapge : sLen + n ≤ grownCap w (sLen + n) sCap e := by show sLen + n ≤ (sLen + n) + _; omega
  have harr : ((olds ++ news).toArray ++ Builtin.zeroCells zv.cells (grownCap w (sLen + n) sCap e - (sLen + n))) =
      ((olds ++ news) ++ (Builtin.zeroCells zv.cells (grownCap w (sLen + n) sCap e - (sLen + n))).toList).toArray := by
    apply Array.ext'; simp
  have hrel := VRels.append _ _ _ _ holdr hnr
  subst hbt
  obtain ⟨ρ', h1, h2, h3, h4, h5⟩ := newRow_run_b (P := P) (sz := i.size) (extra := (Builtin.zeroCells zv.cells (grownCap w (sLen + n) sCap b.t - (sLen + n))).toList) (hr.drew (w.drawn + 1)) ha hbn hbget (by simp) hrel (fun _ => hs)
  refine ⟨ρ', _, _, hrun, ?_, ?_, ?_⟩
  · simp only [VRel]
    refine ⟨trivial, Nat.le_refl _, _, h2, rfl, hcapge, ?_⟩
    simp only [Bool.false_eq_true, if_false]
    intro _
    have hnl := src.newsLen
    simp only [List.length_append, Array.length_toList, zeroCells_size, holdl, hnl, hzs]
    rw [← Nat.add_mul, ← Nat.add_mul]
    exact Nat.mul_le_mul_right _ (by omega)
  · rw [harr]; exact h4
  · rw [harr]; exact (Step.drew (w.drawn + 1)).trans h5

theorem allFlat_spec : ∀ (vs : List AV), allFlat vs = true → ∀ v ∈ vs, v.flat = true
  | [], _, v, hv => by simp at hv
  | x :: xs, h, v, hv => by
    simp only [allFlat, Bool.and_eq_true] at h
    rcases List.mem_cons.1 hv with rfl | hv
    · exact h.1
    · exact allFlat_spec xs h.2 v hv

theorem firstCells_old {size len sc : Nat} {ad : Addr} {olds : List Value} (h : ∀ w' : World, w'.heap = w.heap → (Go.loadCells ad (len * size)).run P w' = .ok olds.toArray w') :
    ∀ w' : World, w'.heap = w.heap → (Builtin.firstCells size len (.slice (some ad) len sc)).run P w' = .ok olds.toArray w' := by
  intro w' hw'
  simp [Builtin.firstCells, h w' hw']

theorem moved_get {b b1 b' : Blk} {new : List AV} {len n size : Nat} (hnewl : new.length = n * size) (hneed : (len + n) * size = len * size + n * size)
    (hbget : ∀ j, j < len * size → b1.get j = b.get j) (hin : ∀ j, j < len * size → ∃ x, b.get j = some x)
    (st6 : ∀ k, b'.get k = if len * size ≤ k ∧ k < len * size + new.length then new[k - len * size]? else b1.get k) (_hnn : b'.n = (len + n) * size) :
    ∀ j, j < ((List.range (len * size)).map (fun j => (b.get j).getD .undef) ++ new).length → b'.get j = ((List.range (len * size)).map (fun j => (b.get j).getD .undef) ++ new)[j]? := by
  intro j hj
  rw [List.length_append, List.length_map, List.length_range] at hj
  rw [st6]
  by_cases c : len * size ≤ j
  · rw [if_pos (by omega), List.getElem?_append_right (by simp; omega), List.length_map, List.length_range]
  · have c' : j < len * size := by omega
    rw [if_neg (by omega), List.getElem?_append_left (by simp; omega), hbget j c']
    obtain ⟨x, hx⟩ := hin j c'
    simp [hx, c']

set_option maxHeartbeats 1000000 in
theorem append_run [Base] (hr : Rel P ρ H w) {t xt ty : TypeId} {s x v : AV} {sv xv : Value} {H' : Heap} (hs : VRel ρ s sv) (hx : VRel ρ x xv) (h : append P t xt s x H = some (v, H')) :
    Made P none ρ H w (Builtin.append_ #[t, xt] ty #[sv, xv]) v H' := by
  unfold append at h
  split at h
  · rename_i e xd hu hxu
    split at h
    · cases h
    · rename_i hxd
      have hk : (∃ e', P.underlying xt = some (.slice e')) ∨ P.underlying xt = some .string := by
        cases xd <;> first
          | (exact absurd rfl hxd; done)
          | exact Or.inl ⟨_, hxu⟩
          | exact Or.inr hxu
      simp only [Option.bind_eq_some_iff] at h
      obtain ⟨size, hsz, by_, hby, n, hn, new, hnew, h⟩ := h
      split at h
      · rename_i base len cap ex
        cases sv with
        | slice sb sl sc =>
          by_cases hroom : len + n ≤ cap
          · -- there is room
            rw [if_pos hroom] at h
            cases base with
            | none =>
              cases sb with
              | some _ => simp [VRel] at hs
              | none =>
                simp only [VRel] at hs
                obtain ⟨rfl, rfl, rfl, hlc⟩ := hs
                dsimp only at h
                split at h
                · rename_i hn0
                  simp only [Option.some.injEq, Prod.mk.injEq] at h
                  obtain ⟨rfl, rfl⟩ := h
                  have hnil : new = [] := by
                    obtain ⟨us, _, h2, h3⟩ := srcCells_run hr hx hnew
                    apply List.eq_nil_of_length_eq_zero
                    rw [VRels.length _ _ h2, h3, hn0]; simp
                  obtain ⟨us, src, _⟩ := src_of hr hx hn hnew hk (by rw [hnil]; simp)
                  exact ⟨ρ, w, _, append_room_nil hu hsz src hroom, by simp only [VRel]; exact ⟨trivial, trivial, trivial, hroom⟩, hr, Step.refl ..⟩
                · cases h
            | some p =>
              obtain ⟨id, off⟩ := p
              cases sb with
              | none => simp [VRel] at hs
              | some ad =>
                simp only [VRel] at hs
                obtain ⟨rfl, hlc, ent, he, rfl, hcc, hex⟩ := hs
                simp only [Option.bind_eq_some_iff, Option.some.injEq, Prod.mk.injEq] at h
                obtain ⟨H1, hst, rfl, rfl⟩ := h
                have hflat : ∀ v ∈ new, v.flat = true := by
                  unfold storeCells at hst
                  split at hst
                  · simp only [Option.bind_eq_some_iff] at hst
                    obtain ⟨b', hb', _⟩ := hst
                    exact flat_of_store hb'
                  · cases hst
                obtain ⟨us, src, hur⟩ := src_of hr hx hn hnew hk hflat
                obtain ⟨w', hrun, h1, h2⟩ := storeCells_run hr hst hur ent he
                refine ⟨ρ, w', _, append_room_run hu hsz src (by omega) (by rw [add_none]; exact hrun), ?_, h1, h2⟩
                simp only [VRel]
                exact ⟨trivial, hroom, ent, he, rfl, hcc, hex⟩
          · -- there is none that is known
            rw [if_neg hroom] at h
            split at h
            · rename_i hc
              obtain ⟨hsm, hsm2, hzz, hfl⟩ := hc
              have hflat := allFlat_spec new hfl
              obtain ⟨z, hz, hzl⟩ : ∃ z, zeroOf P e = some z ∧ z.cells.length = size := by
                cases hz : zeroOf P e with
                | none => rw [hz] at hzz; simp at hzz
                | some z => rw [hz] at hzz; simp only [Option.any_some, beq_iff_eq] at hzz; exact ⟨z, rfl, hzz⟩
              have src := src_of hr hx hn hnew hk hflat
              cases base with
              | none =>
                cases sb with
                | some _ => simp [VRel] at hs
                | none =>
                  simp only [VRel] at hs
                  obtain ⟨rfl, rfl, rfl, hlc⟩ := hs
                  dsimp only at h
                  split at h
                  · rename_i hc0
                    simp only [Bool.true_and, beq_iff_eq] at hc0
                    subst hc0
                    simp only [Option.bind_eq_some_iff] at h
                    obtain ⟨⟨id, H1⟩, ha, h⟩ := h
                    simp only [Option.some.injEq, Prod.mk.injEq] at h
                    obtain ⟨rfl, rfl⟩ := h
                    exact append_new_run (old := []) (olds := []) hr hu hsz hby hz hzl src (fun w' _ => by simp [Builtin.firstCells]) (by simp [VRels]) (by simp) (by omega) hsm hsm2 ha rfl rfl (fun j _ => Blk.get_ofList ..)
                  · cases h
              | some p =>
                obtain ⟨id, off⟩ := p
                cases sb with
                | none => simp [VRel] at hs
                | some ad =>
                  simp only [VRel] at hs
                  obtain ⟨rfl, hlc, ent, he, rfl, hcc, hex⟩ := hs
                  dsimp only at h
                  cases ex with
                  | true =>
                    simp only [if_true] at h hex
                    subst hex
                    simp only [Option.bind_eq_some_iff] at h
                    obtain ⟨old, hold, ⟨id', H1⟩, ha, h⟩ := h
                    simp only [Option.some.injEq, Prod.mk.injEq] at h
                    obtain ⟨rfl, rfl⟩ := h
                    obtain ⟨olds, ho1, ho2, ho3⟩ := loadCells_run hr hold ent he
                    exact append_new_run hr hu hsz hby hz hzl src (fun w' hw' => by simp [Builtin.firstCells, ho1 w' hw']) ho2 ho3 (by omega) hsm hsm2 ha rfl rfl (fun j _ => Blk.get_ofList ..)
                  | false =>
                    simp only [Bool.false_eq_true, if_false] at h hex
                    unfold grown at h
                    split at h
                    · rename_i b hg
                      split at h
                      · rename_i hcond
                        simp only [Bool.and_eq_true, beq_iff_eq] at hcond
                        obtain ⟨⟨⟨hbg, hoff⟩, hlb⟩, hbt⟩ := hcond
                        have hlb : len * size ≤ b.n := Nat.le_of_ble_eq_true hlb
                        subst hoff
                        simp only [Option.bind_eq_some_iff] at h
                        obtain ⟨b', hst, ⟨id', H1⟩, ha, h⟩ := h
                        simp only [Option.some.injEq, Prod.mk.injEq] at h
                        obtain ⟨rfl, rfl⟩ := h
                        obtain ⟨e', cs, fr, he', hcs, hcsz, hbn, hfr, hgsz, hget⟩ := hr.cells hg
                        rw [he] at he'; simp only [Option.some.injEq] at he'; subst he'
                        have hentsz : ent.sz = size := by
                          have := hgsz hbg
                          rw [hbt, hsz] at this
                          simpa using this.symm
                        have hroomc : sc * size ≤ cs.size := by have := hex rfl; rw [hentsz] at this; omega
                        obtain ⟨news, src, hnr⟩ := src
                        have hnl := src.newsLen
                        have hnewl : new.length = n * size := by rw [VRels.length _ _ hnr, hnl]
                        obtain ⟨st1, st2, st3, st4, st5, st6⟩ := Blk.store_spec new _ _ _ hst
                        have hneed : (len + n) * size = len * size + n * size := Nat.add_mul ..
                        have hbget : ∀ j, j < len * size → Blk.get { b with n := (len + n) * size } j = b.get j := by
                          intro j hj
                          have hj1 : j < (len + n) * size := by omega
                          have hj2 : j < b.n := by omega
                          unfold Blk.get
                          dsimp only
                          rw [if_pos hj1, if_pos hj2]
                        by_cases hin : len + n ≤ sc
                        · -- it lies where it lay
                          have hneedc : (len + n) * size ≤ cs.size := Nat.le_trans (Nat.mul_le_mul_right _ hin) hroomc
                          have hone := src.one
                          obtain ⟨cs', hrun, hcs', hval⟩ := run_storeCells' (P := P) news ent.blk (len * size) 0 w cs b.t fr hcs (Or.inr (by omega)) hfr.free hone
                          have ho : ORel P ρ ent (.cells b') (some (.cells cs' b.t fr)) := by
                            refine ⟨st1.symm, by omega, by rw [st3]; show (len + n) * size ≤ _; omega, hfr.of_eq (by omega), fun hg' => ?_, fun k hk => ?_⟩
                            · rw [st1]; show sizeOf P b.t = _; rw [hbt, hsz, hentsz]
                            · rw [st3] at hk
                              have hk : k < (len + n) * size := hk
                              rw [st6, hval]
                              by_cases c : len * size ≤ k
                              · rw [if_pos (by omega), if_pos (by omega)]
                                have hj : k - len * size < new.length := by omega
                                obtain ⟨u, g1, g2⟩ := VRels.get new news (k - len * size) (new[k - len * size]) hnr (by simp)
                                exact ⟨_, u, by simp, by simpa using g1, g2⟩
                              · rw [if_neg (by omega), if_neg (by omega), hbget k (by omega)]
                                exact hget k (by omega)
                          obtain ⟨h1, h2, h3⟩ := hr.move hg trivial he ha ho
                          refine ⟨_, _, _, append_room_run hu hsz src hin (by rw [add_none, Nat.zero_add]; exact hrun), ?_, h1, h2⟩
                          simp only [VRel]
                          refine ⟨trivial, Nat.le_refl _, ent, Ren.upd_same, rfl, hin, ?_⟩
                          simp only [Bool.false_eq_true, if_false]
                          intro _; exact hex rfl
                        · -- it moves
                          have hk2 := hr.kill id
                          have hs2 : Step none ρ H w ρ (H.put id .gone) w := Step.kill id
                          have hold : loadCells H id 0 (len * size) = some ((List.range (len * size)).map fun j => (b.get j).getD .undef) := by
                            unfold loadCells
                            rw [hg]
                            dsimp only
                            simpa using Blk.load_range b 0 (len * size) (fun j hj => by obtain ⟨x, _, hx, _⟩ := hget j (by omega); exact ⟨x, by rw [Nat.zero_add]; exact hx⟩)
                          obtain ⟨olds, ho1, ho2, ho3⟩ := loadCells_run hr hold ent he
                          have hnn : b'.n = (len + n) * size := st3
                          obtain ⟨ρ', w', u, h1, h2, h3, h4⟩ := append_new_run (ty := ty) hk2 hu hsz hby hz hzl ⟨news, src, hnr⟩
                            (firstCells_old (fun w' hw' => ho1 w' hw')) ho2 ho3 (Nat.lt_of_not_le hin) hsm hsm2 ha (by rw [st1]; exact hbt) (by rw [hnn, List.length_append, List.length_map, List.length_range, hnewl]; exact hneed)
                            (moved_get hnewl hneed hbget (fun j hj => by obtain ⟨x, _, hx, _⟩ := hget j (by omega); exact ⟨x, hx⟩) st6 hnn)
                          exact ⟨ρ', w', u, h1, h2, h3, hs2.trans h4⟩
                      · cases h
                    · cases h
            · cases h
        | _ => cases base <;> simp [VRel] at hs
      · -- of nothing
        split at h
        · rename_i hn0
          simp only [Option.some.injEq, Prod.mk.injEq] at h
          obtain ⟨rfl, rfl⟩ := h
          subst hn0
          cases sv with
          | slice sb sl sc =>
            cases sb with
            | none => simp [VRel] at hs
            | some ad =>
              simp only [VRel] at hs
              subst hs
              have hnil : new = [] := by
                obtain ⟨us, _, h2, h3⟩ := srcCells_run hr hx hnew
                apply List.eq_nil_of_length_eq_zero
                rw [VRels.length _ _ h2, h3]; simp
              obtain ⟨us, src, hur⟩ := src_of hr hx hn hnew hk (by rw [hnil]; simp)
              have hus : us = [] := by rw [hnil] at hur; cases us with | nil => rfl | cons _ _ => simp [VRels] at hur
              subst hus
              refine ⟨ρ, w, _, append_room_run hu hsz src (Nat.zero_le _) (by simp [Go.storeCells]), by simp [VRel], hr, Step.refl ..⟩
          | _ => simp [VRel] at hs
        · cases h
      · cases h
  · cases h
end
end AE
