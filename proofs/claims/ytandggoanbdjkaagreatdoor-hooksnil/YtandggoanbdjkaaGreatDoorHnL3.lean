/- What is told of slices.AppendSeq, maps.Clone and bits.TrailingZeros64 holds. Conditions: none. -/
import Derived.Test.YtandggoanbdjkaaGreatDoorHnL2
import Derived.Test.YtandggoanbdjkaaGreatDoorAEC
namespace AE
open Go Go.RowKit

/-- an object in a block that has come since -/
theorem Rel.fresh [Base] {P : Program} {ρ : Ren} {H : Heap} {w w' : World} (hr : Rel P ρ H w) (hb : Below w.heap.size w w') {o : AObj} {id : Nat} {H' : Heap} (h : H.alloc none o = some (id, H')) {e : Ent}
    (h1 : w.heap.size ≤ e.blk) (h2 : e.blk < w'.heap.size) (ho : ORel P ρ e o w'.heap[e.blk]?) :
    Rel P (ρ.upd id e) H' w' ∧ Step none ρ H w (ρ.upd id e) H' w' ∧ ρ.le (ρ.upd id e) := by
  obtain ⟨hget, hnx, hid, hcase⟩ := Heap.alloc_spec h
  have hidn : id = H.next := by
    rcases hcase with ⟨_, h⟩ | ⟨h, _, _⟩
    · exact h
    · cases h
  have hnone : ρ id = none := by
    cases hc : ρ id with
    | none => rfl
    | some f => exact absurd (hr.nxt _ _ hc) (by omega)
  have hle : ρ.le (ρ.upd id e) := Ren.le_upd hnone
  have hr' := hr.below hb
  refine ⟨⟨fun i q hi ql => ?_, fun i j q q' f f' hi ql hj ql' hf hf' hbb => ?_, fun i f hf => ?_, fun i f hf => ?_, fun b q hk => ⟨(hr'.kept b q hk).1, fun i f hf => ?_⟩⟩, ⟨hle, fun i f g1 g2 => ?_, hnx, hb.size, fun b hb' hn => hb.block b hb', fun i q f hi ql hf hbk => ?_, hb.os, hb.tape, hb.output, fun i hi hn ha q hq => ?_⟩, hle⟩
  · rw [hget] at hi
    by_cases c : i = id
    · subst c
      simp only [if_true, Option.some.injEq] at hi
      subst hi
      exact ⟨e, Ren.upd_same, ORel.mono hle _ _ _ ho⟩
    · rw [if_neg c] at hi
      obtain ⟨f, hf, hq⟩ := hr'.obj i q hi ql
      exact ⟨f, by rw [Ren.upd_ne c]; exact hf, ORel.mono hle _ _ _ hq⟩
  · rw [hget] at hi hj
    by_cases c : i = id
    · by_cases d : j = id
      · rw [c, d]
      · rw [Ren.upd_ne d] at hf'
        subst c
        rw [Ren.upd_same] at hf
        simp only [Option.some.injEq] at hf
        subst hf
        have := hr.rng j f' hf'
        omega
    · rw [Ren.upd_ne c] at hf
      rw [if_neg c] at hi
      by_cases d : j = id
      · subst d
        rw [Ren.upd_same] at hf'
        simp only [Option.some.injEq] at hf'
        subst hf'
        have := hr.rng i f hf
        omega
      · rw [Ren.upd_ne d] at hf'
        rw [if_neg d] at hj
        exact hr.inj i j q q' f f' hi ql hj ql' hf hf' hbb
  · by_cases c : i = id
    · subst c; rw [Ren.upd_same] at hf; simp only [Option.some.injEq] at hf; subst hf; exact h2
    · rw [Ren.upd_ne c] at hf; exact hr'.rng i f hf
  · by_cases c : i = id
    · subst c; exact hid
    · rw [Ren.upd_ne c] at hf; have := hr.nxt i f hf; omega
  · by_cases c : i = id
    · subst c; rw [Ren.upd_same] at hf; simp only [Option.some.injEq] at hf; subst hf
      have := (Array.getElem?_eq_some_iff.1 (hr.kept b q hk).1).1
      omega
    · rw [Ren.upd_ne c] at hf; exact (hr.kept b q hk).2 i f hf
  · by_cases c : i = id
    · subst c; exact .inl (by omega)
    · rw [Ren.upd_ne c, g1] at g2; cases g2
  · rw [hget] at hi
    by_cases c : i = id
    · subst c; rw [Ren.upd_same] at hf; simp only [Option.some.injEq] at hf; subst hf; omega
    · rw [Ren.upd_ne c] at hf
      rw [if_neg c] at hi
      exact ⟨i, q, f, hi, ql, hf, rfl⟩
  · rw [hget] at hq
    by_cases c : i = id
    · omega
    · rw [if_neg c] at hq; exact hn q hq

theorem allI64_spec : ∀ (l : List AV), allI64 l = true → ∃ zs : List Int, l = zs.map (AV.int .i64)
  | [], _ => ⟨[], rfl⟩
  | .int .i64 z :: l, h => by
    obtain ⟨zs, hz⟩ := allI64_spec l (by simpa [allI64] using h)
    exact ⟨z :: zs, by rw [hz]; rfl⟩
end AE

namespace Go.Proofs
open Go.RowKit Go.Shelf AE

theorem Tryz.runOk_clone [Base] : RunOk Tryz.prog 207 cloneSpec := by
  intro vs H v H' hs ρ w us hr hu
  unfold cloneSpec at hs
  split at hs
  · simp only [Option.some.injEq, Prod.mk.injEq] at hs
    obtain ⟨rfl, rfl⟩ := hs
    obtain ⟨u, rfl, h1⟩ : ∃ u, us = [u] ∧ VRel ρ (.map none) u := by
      match us, hu with
      | [u], hu => exact ⟨u, rfl, by simpa [VRels] using hu⟩
    have : u = .map none := by
      cases u with
      | map r => cases r with
        | none => rfl
        | some _ => simp [VRel] at h1
      | _ => simp [VRel] at h1
    subst this
    refine ⟨enters_of Tryz.func207 (by kernel_rfl) rfl _ _, (Tryz.clone_nil_calls w).mono ?_⟩
    rintro e w' ⟨rfl, rfl⟩
    exact ⟨ρ, by simp [VRel], hr, Step.refl ..⟩
  · rename_i r
    split at hs
    · rename_i es hes
      simp only [Option.bind_eq_some_iff, Option.some.injEq, Prod.mk.injEq] at hs
      obtain ⟨⟨id, H1⟩, ha, rfl, rfl⟩ := hs
      obtain ⟨u, rfl, h1⟩ : ∃ u, us = [u] ∧ VRel ρ (.map (some r)) u := by
        match us, hu with
        | [u], hu => exact ⟨u, rfl, by simpa [VRels] using hu⟩
      obtain ⟨e, he, rfl⟩ : ∃ e, ρ r = some e ∧ u = .map (some e.blk) := by
        cases u with
        | map q => cases q with
          | none => simp [VRel] at h1
          | some q => simp only [VRel] at h1; obtain ⟨e, he, rfl⟩ := h1; exact ⟨e, he, rfl⟩
        | _ => simp [VRel] at h1
      obtain ⟨e', he', ho⟩ := hr.obj r _ hes trivial
      rw [he] at he'; simp only [Option.some.injEq] at he'; subst he'
      obtain ⟨mes, clock, hb, hrel⟩ : ∃ mes clock, w.heap[e.blk]? = some (.map mes clock) ∧ ERel ρ es mes.toList := by
        cases hx : w.heap[e.blk]? with
        | none => rw [hx] at ho; simp [ORel] at ho
        | some x =>
          rw [hx] at ho
          cases x with
          | map mes clock => exact ⟨mes, clock, rfl, by simpa [ORel] using ho⟩
          | _ => simp [ORel] at ho
      refine ⟨enters_of Tryz.func207 (by kernel_rfl) rfl _ _, (Tryz.clone_calls e.blk mes clock w hb).mono ?_⟩
      rintro en w' ⟨rfl, rfl⟩
      have hB : Below w.heap.size w (w.alloc (.map mes clock)) := (Below.refl _ w).alloc (Nat.le_refl _) _
      obtain ⟨g1, g2, g3⟩ := hr.fresh hB (o := .map es) ha (e := ⟨w.heap.size, 0, 0⟩) (Nat.le_refl _) (by simp) (by rw [World.alloc_heap_new]; exact hrel)
      exact ⟨_, by simp only [VRel]; exact ⟨_, Ren.upd_same, rfl⟩, g1, g2⟩
    · cases hs
  · cases hs

theorem Tryz.runOk_tz [Base] (hT : ∀ w : World, (∀ b o, Base.kept b = some o → w.heap[b]? = some o) → Tryz.TZ w) : RunOk Tryz.prog 296 tzSpec := by
  intro vs H v H' hs ρ w us hr hu
  unfold tzSpec at hs
  split at hs
  · rename_i m
    split at hs
    · rename_i hm
      simp only [Option.map_eq_some_iff, Prod.mk.injEq] at hs
      obtain ⟨n, hn, rfl, rfl⟩ := hs
      obtain ⟨u, rfl, h1⟩ : ∃ u, us = [u] ∧ VRel ρ (.int .u64 (.ofNat m)) u := by
        match us, hu with
        | [u], hu => exact ⟨u, rfl, by simpa [VRels] using hu⟩
      have := int_rel h1
      subst this
      refine ⟨enters_of Tryz.func296 (by kernel_rfl) rfl _ _, (Tryz.tz_calls m hm w (hT w fun b o hk => (hr.kept b o hk).1) n hn).mono ?_⟩
      rintro e w' ⟨rfl, rfl⟩
      exact ⟨ρ, by simp [VRel], hr, Step.refl ..⟩
    · cases hs
  · cases hs

theorem Tryz.runOk_append [Base] : RunOk Tryz.prog 269 (appendSeqSpec 215 3) := by
  intro vs H v H' hs ρ w us hr hu
  unfold appendSeqSpec at hs
  split at hs
  case h_2 => cases hs
  rename_i g b
  split at hs
  case isFalse => cases hs
  rename_i hg
  subst hg
  obtain ⟨u1, u2, rfl, h1, h2⟩ := VRels.two hu
  have hnil : ∀ u, VRel ρ (.slice none 0 0 true) u → u = .slice none 0 0 := by
    intro u h
    cases u with
    | slice p l c => cases p with
      | none => simp only [VRel] at h; obtain ⟨rfl, rfl, _⟩ := h; rfl
      | some _ => simp [VRel] at h
    | _ => simp [VRel] at h
  have e1 := hnil u1 h1
  subst e1
  obtain ⟨e, he, rfl⟩ : ∃ e, ρ b = some e ∧ u2 = .func (.func 215) #[] #[.pointer (some ⟨e.blk, 0, none⟩)] := by
    cases u2 with
    | func fn x y =>
      simp only [VRel] at h2
      obtain ⟨rfl, hx, hy⟩ := h2
      have ex : x = #[] := by
        obtain ⟨l⟩ := x
        cases l with
        | nil => rfl
        | cons _ _ => simp [VRels] at hx
      obtain ⟨l⟩ := y
      match l, hy with
      | [p], hy =>
        simp only [VRels, and_true] at hy
        cases p with
        | pointer q =>
          cases q with
          | none => simp [VRel] at hy
          | some q =>
            simp only [VRel] at hy
            obtain ⟨e, he, rfl⟩ := hy
            exact ⟨e, he, by rw [ex]⟩
        | _ => simp [VRel] at hy
    | _ => simp [VRel] at h2
  have hlt := hr.rng b e he
  have henter := enters_of (P := Tryz.prog) Tryz.func269 (by kernel_rfl) rfl
  -- a cell that the abstract heap tells of
  have hcell : ∀ (id off n : Nat) (l : List AV), AE.loadCells H id off n = some l → ∀ e, ρ id = some e → l.length = n ∧ ∀ j x, l[j]? = some x → ∃ u, w.cell? ⟨e.blk, off + j, none⟩ = some u ∧ VRel ρ x u := by
    intro id off n l hl e he
    unfold AE.loadCells at hl
    split at hl
    · rename_i bl hbl
      obtain ⟨e', cs, fr, he', hcs, _, _, _, _, hget⟩ := hr.cells hbl
      rw [he] at he'; simp only [Option.some.injEq] at he'; subst he'
      obtain ⟨hn, hgl⟩ := Blk.load_spec bl n off l hl
      refine ⟨hn, fun j x hj => ?_⟩
      have hjn : j < n := by
        have := (List.getElem?_eq_some_iff.1 hj).1; omega
      have h3 := hgl j hjn
      rw [hj] at h3
      obtain ⟨x', u, h4, h5, h6⟩ := hget _ (Blk.get_lt h3)
      rw [h3] at h4; simp only [Option.some.injEq] at h4; subst h4
      exact ⟨u, by rw [cell_of_blk hcs]; exact h5, h6⟩
    · cases hl
  split at hs
  · -- nil
    rename_i hl
    simp only [Option.some.injEq, Prod.mk.injEq] at hs
    obtain ⟨rfl, rfl⟩ := hs
    obtain ⟨_, hj⟩ := hcell b 0 1 _ hl e he
    obtain ⟨u, hu1, hu2⟩ := hj 0 _ rfl
    have := hnil u hu2
    subst this
    refine ⟨henter _ _, callsIn_wide.1 ((Tryz.appendSeq_in _ 3 trivial trivial rfl (by omega) e.blk (.slice none 0 0) [] (by simp) w hlt (by simpa using hu1) (.inl ⟨rfl, rfl⟩)).mono ?_)⟩
    rintro en w' ⟨v, rfl, _, hnil, hB⟩
    rw [hnil.2 rfl]
    exact ⟨ρ, by simp [VRel], hr.below hB, Step.below hB⟩
  · rename_i id off len cap ex hl
    split at hs
    · rename_i cs hcs
      split at hs
      case isFalse => cases hs
      rename_i hck
      simp only [Bool.and_eq_true, decide_eq_true_eq] at hck
      obtain ⟨zs, rfl⟩ := allI64_spec cs hck.1
      obtain ⟨_, hj⟩ := hcell b 0 1 _ hl e he
      obtain ⟨u, hu1, hu2⟩ := hj 0 _ rfl
      obtain ⟨f, c', hf, rfl⟩ : ∃ f c', ρ id = some f ∧ u = .slice (some ⟨f.blk, off, none⟩) len c' := by
        cases u with
        | slice p l c =>
          cases p with
          | none => simp [VRel] at hu2
          | some p =>
            simp only [VRel] at hu2
            obtain ⟨rfl, _, f, hf, rfl, _⟩ := hu2
            exact ⟨f, c, hf, rfl⟩
        | _ => simp [VRel] at hu2
      obtain ⟨hn, hj2⟩ := hcell id off len _ hcs f hf
      simp only [List.length_map] at hn
      subst hn
      have hints : Tryz.Ints w.heap.size w (.slice (some ⟨f.blk, off, none⟩) zs.length c') zs := by
        refine .inr ⟨f.blk, off, c', rfl, hr.rng id f hf, fun j hj => ?_⟩
        obtain ⟨u, h3, h4⟩ := hj2 j (.int .i64 zs[j]) (by simp [hj])
        have := int_rel h4
        rw [h3, this]
        simp [hj]
      have hcalls := callsIn_wide.1 (Tryz.appendSeq_in _ 3 trivial trivial rfl (by omega) e.blk _ zs hck.2 w hlt (by simpa using hu1) hints)
      split at hs
      · rename_i h0
        simp only [Option.some.injEq, Prod.mk.injEq] at hs
        obtain ⟨rfl, rfl⟩ := hs
        have hz : zs = [] := List.length_eq_zero_iff.1 h0
        refine ⟨henter _ _, hcalls.mono ?_⟩
        rintro en w' ⟨v, rfl, _, hnil, hB⟩
        rw [hnil.2 hz]
        exact ⟨ρ, by simp [VRel], hr.below hB, Step.below hB⟩
      · rename_i h0
        simp only [Option.bind_eq_some_iff, Option.some.injEq, Prod.mk.injEq] at hs
        obtain ⟨⟨id', H1⟩, ha, rfl, rfl⟩ := hs
        refine ⟨henter _ _, hcalls.mono ?_⟩
        rintro en w' ⟨v, rfl, hown, hnil, hB⟩
        rcases hown.2 with ⟨_, hz⟩ | ⟨g', cap', cur, rfl, hgb, hgc, hc1, _, hc3, hc4⟩
        · exact absurd hz h0
        · have hgl : g' < w'.heap.size := (Array.getElem?_eq_some_iff.1 hgc).1
          obtain ⟨g1, g2, g3⟩ := hr.fresh hB ha (e := ⟨g', cur.size, 1⟩) hgb hgl (by
            rw [hgc]
            refine ⟨rfl, rfl, ?_, .inl rfl, fun _ => by kernel_rfl, fun k hk => ?_⟩
            · show (zs.map (AV.int .i64)).length ≤ cur.size
              simp; omega
            · have hk : k < (zs.map (AV.int .i64)).length := hk
              simp only [List.length_map] at hk
              refine ⟨.int .i64 zs[k], .int .i64 zs[k], ?_, ?_, by simp [VRel]⟩
              · rw [Blk.get_ofList]; simp [hk]
              · have : (cur.toList.take (zs.length * 1))[k]? = some (.int .i64 zs[k]) := by rw [hc4]; simp [hk]
                rw [List.getElem?_take] at this
                simpa [hk] using this)
          refine ⟨_, ?_, g1, g2⟩
          simp only [VRel]
          exact ⟨trivial, Nat.le_refl _, _, Ren.upd_same, rfl, hc1, by simp; omega⟩
    · cases hs
  · cases hs
end Go.Proofs
