/- The abstract evaluator: slices, addresses, numbers. Conditions: none. -/
import Derived.Test.YtandggoanbdjkaaGreatDoorAEOps2
namespace AE
open Go

section
variable {P : Program} {ρ : Ren} {H : Heap} {w : World}

theorem bytesOf_info {t : TypeId} {n : Nat} (h : bytesOf P t = some n) : ∃ i, P.info? t = some i ∧ i.bytes = n := by
  unfold bytesOf at h; simpa using h

theorem int_rel {k : IntKind} {n : Int} {v : Value} (h : VRel ρ (.int k n) v) : v = .int k n := by
  cases v <;> simp_all [VRel]

theorem str_rel {s : ByteArray} {v : Value} (h : VRel ρ (.str s) v) : v = .string s := by
  cases v <;> simp_all [VRel]

theorem bool_rel {b : Bool} {v : Value} (h : VRel ρ (.bool b) v) : v = .bool b := by
  cases v <;> simp_all [VRel]

theorem wrap_id64 (n : Int) (h0 : 0 ≤ n) (h : n ≤ 1099511627776) : IntKind.i64.wrap n = n := by
  unfold IntKind.wrap IntKind.bits IntKind.signed
  simp only [Bool.true_and]
  have e : n % (2 ^ 64 : Int) = n := Int.emod_eq_of_lt h0 (by omega)
  rw [e, if_neg (by simp; omega)]

theorem makeSlice_run [Base] (hr : Rel P ρ H w) {at_ : Option Nat} {t : TypeId} {l c v : AV} {lv cv : Value} {H' : Heap} (hl : VRel ρ l lv) (hc : VRel ρ c cv)
    (hat : ∀ i, at_ = some i → ρ i = none) (h : makeSlice P t l c at_ H = some (v, H')) : Made P at_ ρ H w (Instr.makeSlice t lv cv) v H' := by
  unfold makeSlice at h
  split at h
  · rename_i e kl l kc c hu
    rw [int_rel hl, int_rel hc]
    simp only [Option.bind_eq_some_iff] at h
    obtain ⟨n, hn, by_, hby, h⟩ := h
    split at h
    · rename_i hok
      obtain ⟨h0, hlc, hcb, hbb⟩ := hok
      simp only [Option.bind_eq_some_iff] at h
      obtain ⟨z, hz, h⟩ := h
      split at h
      · rename_i hzl
        simp only [Option.bind_eq_some_iff] at h
        obtain ⟨⟨id, H1⟩, ha, h⟩ := h
        simp only [Option.some.injEq, Prod.mk.injEq] at h
        obtain ⟨rfl, rfl⟩ := h
        obtain ⟨it, zv, hit, hzv, hzr, hzc⟩ := zeroCells_of (ρ := ρ) hz
        obtain ⟨ie, hie, hies⟩ := info_of_size hn
        obtain ⟨ie2, hie2, hieb⟩ := bytesOf_info hby
        rw [hit] at hie hie2
        simp only [Option.some.injEq] at hie hie2
        subst hie hie2
        have hzl2 := VRels.length _ _ hzc
        simp only [Array.length_toList] at hzl2
        have hrow : VRels ρ (rep c.toNat z.cells) ((Array.range (c.toNat * n)).map ((if c.toNat * n = 0 then (#[] : Array Value) else zv.cells)[· % (if c.toNat * n = 0 then (#[] : Array Value) else zv.cells).size]!)).toList := by
          by_cases q : c.toNat * n = 0
          · have : rep c.toNat z.cells = [] := by
              apply List.eq_nil_of_length_eq_zero; rw [rep_length, hzl, q]
            rw [this]; simp [q, VRels]
          · simp only [if_neg q]
            exact zeros_rel hzc (c.toNat * n) c.toNat (by rw [hzl])
        have hlen := VRels.length _ _ hrow
        rw [rep_length] at hlen
        have ho : ORel P ρ ⟨w.heap.size, ((Array.range (c.toNat * n)).map ((if c.toNat * n = 0 then (#[] : Array Value) else zv.cells)[· % (if c.toNat * n = 0 then (#[] : Array Value) else zv.cells).size]!)).size, 0⟩
            (.cells (.zeros e c.toNat z.cells)) (some (.cells ((Array.range (c.toNat * n)).map ((if c.toNat * n = 0 then (#[] : Array Value) else zv.cells)[· % (if c.toNat * n = 0 then (#[] : Array Value) else zv.cells).size]!)) e)) := by
          refine ⟨rfl, rfl, ?_, Or.inl rfl, fun h => (by cases h), fun k hk => ?_⟩
          · show c.toNat * z.cells.length ≤ _
            simp [hzl]
          · have hk : k < c.toNat * z.cells.length := hk
            have hz0 : 0 < z.cells.length := by
              rcases Nat.eq_zero_or_pos z.cells.length with q | q
              · rw [q] at hk; simp at hk
              · exact q
            have hm : k % z.cells.length < z.cells.length := Nat.mod_lt _ hz0
            have hg : (rep c.toNat z.cells)[k]? = some z.cells[k % z.cells.length] := by rw [rep_get _ _ _ hk]; simp
            obtain ⟨u, h1, h2⟩ := VRels.get _ _ _ _ hrow hg
            refine ⟨_, u, ?_, by rw [← Array.getElem?_toList]; exact h1, h2⟩
            rw [Blk.get_zeros, if_pos hk]; simp
        obtain ⟨h1, h2, h3⟩ := hr.alloc ha hat ho
        refine ⟨_, _, .slice (some ⟨w.heap.size, 0, none⟩) l.toNat c.toNat, ?_, ?_, h1, h2⟩
        · have hwl : IntKind.i64.wrap l = l := wrap_id64 l h0 (by omega)
          have hwc : IntKind.i64.wrap c = c := wrap_id64 c (by omega) hcb
          have hc0 : ¬ c < 0 := by omega
          have hl0 : ¬ l < 0 := by omega
          have hgt : ¬ l > c := by omega
          have hbig : ¬ ((it.bytes : Int) * c > 2 ^ 48) := by rw [hieb]; omega
          have hbig2 : (it.bytes : Int) * c ≤ 281474976710656 := by rw [hieb]; omega
          have hcond : ((decide (c < 0) || decide ((it.bytes : Int) * c > 2 ^ 48)) || decide (l < 0) || decide (l > c)) = false := by simp [hc0, hl0, hgt, hbig2]
          simp only [Instr.makeSlice, Sem.run_bind, run_underlying hu, Result.andThen_ok, asInt, asIntOf, Sem.run_pure, typeInfo, run_program, hit, hwl, hwc, hcond, Bool.false_eq_true, if_false, run_askRoom, sizeOf_run hn]
          by_cases q : c.toNat * n = 0
          · simp only [q, if_true, Sem.run_pure, Result.andThen_ok, Go.newRow, Sem.run_bind, run_newObj, push]
          · simp only [q, if_false, zeroValue, typeInfo, Sem.run_bind, run_program, Result.andThen_ok, hit, hzv, Sem.run_pure, Go.newRow, run_newObj, push]
        · simp only [VRel]; exact ⟨trivial, by omega, _, Ren.upd_same, rfl, Nat.le_refl _, by simp⟩
      · cases h
    · cases h
  · cases h

theorem bound_run {x : AV} {v : Value} {y n : Nat} (code : BoundsCode) (hx : VRel ρ x v) (h : bound x y = some n) : (Instr.sliceBound v y code).run P w = .ok n w ∧ n ≤ y := by
  unfold bound at h
  split at h
  · rename_i k i
    rw [int_rel hx]
    split at h
    · rename_i hi
      simp only [Option.some.injEq] at h
      subst h
      refine ⟨?_, by omega⟩
      simp only [Instr.sliceBound, asIntOf, Sem.run_bind, Sem.run_pure, Result.andThen_ok, if_pos hi]
    · cases h
  · cases h

theorem bound_mono {x : AV} {y y' n : Nat} (h : bound x y = some n) (hy : y ≤ y') : bound x y' = some n := by
  unfold bound at h ⊢
  split at h
  · split at h
    · rename_i hi; rw [if_pos (by omega)]; exact h
    · cases h
  · cases h

/-- an operand that may not be there -/
def OptRel (ρ : Ren) : Option AV → Option Value → Prop
  | none, none => True
  | some x, some v => VRel ρ x v
  | _, _ => False

/-- the bounds of a slice whose room is at least cap, and cap itself if a highest one is told of -/
theorem bounds_run {isS : Bool} {len cap cap' : Nat} {lo hi mx : Option AV} {lov hiv mxv : Option Value} {l h m : Nat} (hlo : OptRel ρ lo lov) (hhi : OptRel ρ hi hiv) (hmx : OptRel ρ mx mxv)
    (hlen : len ≤ cap) (hcap : cap ≤ cap') (hb : bounds len cap lo hi mx = some (l, h, m)) :
    ∃ m', (Instr.sliceBounds isS len cap' lov hiv mxv).run P w = .ok (l, h, m') w ∧ l ≤ h ∧ h ≤ m ∧ m ≤ cap ∧
      ((mx.isSome = true ∧ m' = m) ∨ (mx = none ∧ m = cap ∧ m' = cap')) := by
  unfold bounds at hb
  simp only [Option.bind_eq_some_iff, Option.some.injEq, Prod.mk.injEq] at hb
  obtain ⟨m0, hm0, h0, hh0, l0, hl0, rfl, rfl, rfl⟩ := hb
  cases mx with
  | none =>
    cases mxv with
    | some _ => simp [OptRel] at hmx
    | none =>
      simp only [Option.some.injEq] at hm0
      subst hm0
      cases hi with
      | none =>
        cases hiv with
        | some _ => simp [OptRel] at hhi
        | none =>
          simp only [Option.isSome_none, Bool.false_eq_true, if_false, Option.some.injEq] at hh0
          subst hh0
          cases lo with
          | none =>
            cases lov with
            | some _ => simp [OptRel] at hlo
            | none =>
              simp only [Option.some.injEq] at hl0
              subst hl0
              exact ⟨cap', by simp [Instr.sliceBounds], Nat.zero_le _, hlen, Nat.le_refl _, Or.inr ⟨rfl, rfl, rfl⟩⟩
          | some x =>
            cases lov with
            | none => simp [OptRel] at hlo
            | some v =>
              obtain ⟨h1, h2⟩ := bound_run (P := P) (w := w) .sliceB hlo hl0
              exact ⟨cap', by simp [Instr.sliceBounds, h1], h2, hlen, Nat.le_refl _, Or.inr ⟨rfl, rfl, rfl⟩⟩
      | some y =>
        cases hiv with
        | none => simp [OptRel] at hhi
        | some yv =>
          have hb2 : bound y cap' = some h0 := by
            exact bound_mono hh0 hcap
          obtain ⟨_, hle⟩ := bound_run (P := P) (w := w) .sliceAcap hhi hh0
          have hy : ∀ code, (Instr.sliceBound yv cap' code).run P w = .ok h0 w := fun code => (bound_run (P := P) (w := w) code hhi hb2).1
          cases lo with
          | none =>
            cases lov with
            | some _ => simp [OptRel] at hlo
            | none =>
              simp only [Option.some.injEq] at hl0
              subst hl0
              refine ⟨cap', ?_, Nat.zero_le _, hle, Nat.le_refl _, Or.inr ⟨rfl, rfl, rfl⟩⟩
              cases isS <;> simp [Instr.sliceBounds, hy]
          | some x =>
            cases lov with
            | none => simp [OptRel] at hlo
            | some v =>
              obtain ⟨h1, h2⟩ := bound_run (P := P) (w := w) .sliceB hlo hl0
              refine ⟨cap', ?_, h2, hle, Nat.le_refl _, Or.inr ⟨rfl, rfl, rfl⟩⟩
              cases isS <;> simp [Instr.sliceBounds, hy, h1]
  | some mxx =>
    cases mxv with
    | none => simp [OptRel] at hmx
    | some mv =>
      have hb2 : bound mxx cap' = some m0 := by
        exact bound_mono hm0 hcap
      obtain ⟨_, hmle⟩ := bound_run (P := P) (w := w) .slice3Acap hmx hm0
      have hm : ∀ code, (Instr.sliceBound mv cap' code).run P w = .ok m0 w := fun code => (bound_run (P := P) (w := w) code hmx hb2).1
      cases hi with
      | none => simp at hh0
      | some y =>
        cases hiv with
        | none => simp [OptRel] at hhi
        | some yv =>
          obtain ⟨hy, hle⟩ := bound_run (P := P) (w := w) .slice3B hhi hh0
          cases lo with
          | none =>
            cases lov with
            | some _ => simp [OptRel] at hlo
            | none =>
              simp only [Option.some.injEq] at hl0
              subst hl0
              refine ⟨m0, ?_, Nat.zero_le _, hle, hmle, Or.inl ⟨rfl, rfl⟩⟩
              cases isS <;> simp [Instr.sliceBounds, hy, hm]
          | some x =>
            cases lov with
            | none => simp [OptRel] at hlo
            | some v =>
              obtain ⟨h1, h2⟩ := bound_run (P := P) (w := w) .slice3C hlo hl0
              refine ⟨m0, ?_, h2, hle, hmle, Or.inl ⟨rfl, rfl⟩⟩
              cases isS <;> simp [Instr.sliceBounds, hy, hm, h1]

/-- an operation that neither makes nor lays anything -/
def Gives (P : Program) (ρ : Ren) (w : World) (s : Sem Value) (v : AV) : Prop := ∃ u, s.run P w = .ok u w ∧ VRel ρ v u

theorem sliceArr_run {k : Nat} {e : TypeId} {id off : Nat} {lo hi mx : Option AV} {lov hiv mxv : Option Value} {v : AV} {ent : Ent} (he : ρ id = some ent)
    (hlo : OptRel ρ lo lov) (hhi : OptRel ρ hi hiv) (hmx : OptRel ρ mx mxv) (h : sliceArr P k e id off lo hi mx = some v) :
    ∃ l h m n u, (Instr.sliceBounds false k k lov hiv mxv).run P w = .ok (l, h, m) w ∧ (Go.sizeOf e).run P w = .ok n w ∧
      u = .slice (some (if m = l then ⟨ent.blk, off, none⟩ else (⟨ent.blk, off, none⟩ : Addr).add (l * n))) (h - l) (m - l) ∧ VRel ρ v u := by
  unfold sliceArr at h
  simp only [Option.bind_eq_some_iff] at h
  obtain ⟨n, hn, ⟨l, hh, m⟩, hb, h⟩ := h
  simp only [Option.some.injEq] at h
  subst h
  obtain ⟨m', hrun, h1, h2, h3, hm⟩ := bounds_run (P := P) (w := w) (isS := false) hlo hhi hmx (Nat.le_refl _) (Nat.le_refl _) hb
  have hmm : m' = m := by rcases hm with ⟨_, h⟩ | ⟨_, h, h'⟩ <;> omega
  subst hmm
  refine ⟨l, hh, m', n, _, hrun, sizeOf_run hn, rfl, ?_⟩
  by_cases c : m' = l
  · simp only [if_pos c, VRel]; exact ⟨trivial, by omega, ent, he, rfl, Nat.le_refl _, by simp⟩
  · simp only [if_neg c, VRel, add_none]; exact ⟨trivial, by omega, ent, he, rfl, Nat.le_refl _, by simp⟩

theorem slice_run {t : TypeId} {x v : AV} {xv : Value} {lo hi mx : Option AV} {lov hiv mxv : Option Value} (hx : VRel ρ x xv)
    (hlo : OptRel ρ lo lov) (hhi : OptRel ρ hi hiv) (hmx : OptRel ρ mx mxv) (h : sliceOp P t x lo hi mx = some v) :
    Gives P ρ w (Instr.sliceAt t xv lov hiv mxv) v := by
  unfold sliceOp at h
  split at h
  · -- a string
    rename_i s hu
    rw [str_rel hx]
    split at h
    · cases h
    · rename_i hm
      have hmn : mx = none := by cases mx with | none => rfl | some _ => simp at hm
      subst hmn
      have hmv : mxv = none := by cases mxv with | none => rfl | some _ => simp [OptRel] at hmx
      subst hmv
      simp only [Option.map_eq_some_iff] at h
      obtain ⟨⟨l, hh, m⟩, hb, rfl⟩ := h
      obtain ⟨m', hrun, _⟩ := bounds_run (P := P) (w := w) (isS := false) hlo hhi hmx (Nat.le_refl _) (Nat.le_refl _) hb
      exact ⟨.string (s.extract l hh), by simp [Instr.sliceAt, Instr.slice, run_underlying hu, hrun], by simp [VRel]⟩
  · -- a slice
    rename_i e a len cap ex hu
    simp only [Option.bind_eq_some_iff] at h
    obtain ⟨n, hn, ⟨l, hh, m⟩, hb, h⟩ := h
    cases xv with
    | slice av len' cap' =>
      cases a with
      | none =>
        cases av with
        | some _ => simp [VRel] at hx
        | none =>
          simp only [VRel] at hx
          obtain ⟨rfl, rfl, rfl, hlen⟩ := hx
          simp only [Bool.true_or, Option.some.injEq] at h
          subst h
          obtain ⟨m', hrun, h1, h2, h3, hm⟩ := bounds_run (P := P) (w := w) (isS := true) hlo hhi hmx hlen (Nat.le_refl _) hb
          have hmm : m' = m := by rcases hm with ⟨_, h⟩ | ⟨_, h, h'⟩ <;> omega
          subst hmm
          exact ⟨.slice none (hh - l) (m' - l), by simp [Instr.sliceAt, Instr.slice, run_underlying hu, hrun, sizeOf_run hn], by simp only [VRel]; exact ⟨trivial, trivial, trivial, by omega⟩⟩
      | some p =>
        obtain ⟨id, off⟩ := p
        cases av with
        | none => simp [VRel] at hx
        | some ad =>
          simp only [VRel] at hx
          obtain ⟨rfl, hlen, ent, he, rfl, hcc, hex⟩ := hx
          dsimp only at h
          obtain ⟨m', hrun, h1, h2, h3, hm⟩ := bounds_run (P := P) (w := w) (isS := true) hlo hhi hmx hlen hcc hb
          refine ⟨.slice (if m' = l then some ⟨ent.blk, off, none⟩ else (some (⟨ent.blk, off, none⟩ : Addr)).map (·.add (l * n))) (hh - l) (m' - l), by simp [Instr.sliceAt, Instr.slice, run_underlying hu, hrun, sizeOf_run hn], ?_⟩
          by_cases c : (ex || mx.isSome) = true
          · rw [if_pos c] at h
            simp only [Option.some.injEq] at h
            subst h
            have hmm : m' = m := by
              rcases hm with ⟨_, h⟩ | ⟨h0, h, h'⟩
              · exact h
              · subst h0
                simp only [Option.isSome_none, Bool.or_false] at c
                subst c
                simp only [if_true] at hex
                omega
            subst hmm
            by_cases d : m' = l
            · simp only [if_pos d, VRel]; exact ⟨trivial, by omega, ent, he, rfl, Nat.le_refl _, by simp⟩
            · simp only [if_neg d, Option.map_some, VRel, add_none]; exact ⟨trivial, by omega, ent, he, rfl, Nat.le_refl _, by simp⟩
          · rw [if_neg c] at h
            simp only [Bool.or_eq_true, not_or] at c
            obtain ⟨c1, c2⟩ := c
            have hexf : ex = false := Bool.eq_false_iff.2 c1
            subst hexf
            simp only [Bool.false_eq_true, if_false] at hex
            rcases hm with ⟨h0, _⟩ | ⟨h0, hmc, hmc'⟩
            · exact absurd h0 c2
            · by_cases d : m = l
              · rw [if_pos d] at h
                simp only [Option.some.injEq] at h
                subst h
                have hz : hh - l = 0 := by omega
                by_cases d2 : m' = l
                · simp only [if_pos d2, VRel]; exact hz
                · simp only [if_neg d2, Option.map_some, VRel]; exact hz
              · rw [if_neg d] at h
                simp only [Option.some.injEq] at h
                subst h
                have hml : l < m := by omega
                have d2 : ¬ m' = l := by omega
                simp only [if_neg d2, Option.map_some, VRel, add_none]
                refine ⟨trivial, by omega, ent, he, rfl, by omega, ?_⟩
                simp only [Bool.false_eq_true, if_false]
                intro ho
                have h5 := hex (by omega)
                exact Nat.le_trans (Nat.mul_le_mul_right _ (by omega)) h5
    | _ => cases a <;> simp [VRel] at hx
  · -- a slice of nothing
    rename_i e hu
    simp only [Option.bind_eq_some_iff] at h
    obtain ⟨n, hn, ⟨l, hh, m⟩, hb, h⟩ := h
    split at h
    · cases h
    · rename_i hm
      simp only [Option.some.injEq] at h
      subst h
      have hmn : mx = none := by cases mx with | none => rfl | some _ => simp at hm
      subst hmn
      cases xv with
      | slice av len' cap' =>
        cases av with
        | none => simp [VRel] at hx
        | some ad =>
          simp only [VRel] at hx
          subst hx
          obtain ⟨m', hrun, h1, h2, h3, hm'⟩ := bounds_run (P := P) (w := w) (isS := true) (cap' := cap') hlo hhi hmx (Nat.le_refl _) (Nat.zero_le _) hb
          have hl0 : l = 0 := by omega
          have hh0 : hh = 0 := by omega
          subst hl0 hh0
          refine ⟨.slice (if m' = 0 then some ad else (some ad).map (·.add (0 * n))) (0 - 0) (m' - 0), by simp [Instr.sliceAt, Instr.slice, run_underlying hu, hrun, sizeOf_run hn], ?_⟩
          by_cases d : m' = 0
          · simp only [if_pos d, VRel]
          · simp only [if_neg d, Option.map_some, VRel]
      | _ => simp [VRel] at hx
  · -- a pointer to an array
    rename_i arr id off hu
    split at h
    · rename_i k e hua
      cases xv with
      | pointer av =>
        cases av with
        | none => simp [VRel] at hx
        | some ad =>
          simp only [VRel] at hx
          obtain ⟨ent, he, rfl⟩ := hx
          obtain ⟨l, hh, m, n, u, hrun, hn, hu', hrel⟩ := sliceArr_run (P := P) (w := w) he hlo hhi hmx h
          exact ⟨u, by simp [Instr.sliceAt, Instr.slice, run_underlying hu, run_underlying hua, asAddr, hrun, hn, hu'], hrel⟩
      | _ => simp [VRel] at hx
    · cases h
  · -- an array's place
    rename_i k e id off hu
    cases xv with
    | pointer av =>
      cases av with
      | none => simp [VRel] at hx
      | some ad =>
        simp only [VRel] at hx
        obtain ⟨ent, he, rfl⟩ := hx
        obtain ⟨l, hh, m, n, u, hrun, hn, hu', hrel⟩ := sliceArr_run (P := P) (w := w) he hlo hhi hmx h
        exact ⟨u, by simp [Instr.sliceAt, Instr.sureAddr, run_underlying hu, hrun, hn, hu'], hrel⟩
    | _ => simp [VRel] at hx
  · cases h
end
end AE
