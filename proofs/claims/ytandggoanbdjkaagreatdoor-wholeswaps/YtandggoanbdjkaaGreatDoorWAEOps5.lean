/- The abstract evaluator: comparisons, conversions. Conditions: none. -/
import Derived.Test.YtandggoanbdjkaaGreatDoorWAEOps1
import Derived.Laws.StructEq
namespace AE
open Go

section
variable {P : Program} {ρ : Ren} {H : Heap} {w : World}

theorem eqBasic_run {t : TypeId} {x y : AV} {xv yv : Value} {b : Bool} (d : Nat) (hx : VRel ρ x xv) (hy : VRel ρ y yv) (h : eqBasic P t x y = some b) :
    (Op.equalIn (d + 1) t xv yv).run P w = .ok b w ∧ isAgg P t = some false := by
  unfold eqBasic at h
  split at h
  · rename_i k0 k a l b' hu
    rw [int_rel hx, int_rel hy]
    split at h
    · rename_i hk
      subst hk
      simp only [Option.some.injEq] at h
      subst h
      exact ⟨by simp [Op.equalIn, run_underlying hu], by simp [isAgg, hu]⟩
    · cases h
  · rename_i a b' hu
    rw [bool_rel hx, bool_rel hy]
    simp only [Option.some.injEq] at h
    subst h
    exact ⟨by simp [Op.equalIn, run_underlying hu], by simp [isAgg, hu]⟩
  · rename_i a b' hu
    rw [str_rel hx, str_rel hy]
    simp only [Option.some.injEq] at h
    subst h
    exact ⟨by simp [Op.equalIn, run_underlying hu], by simp [isAgg, hu]⟩
  · cases h

theorem eqFields_run (d : Nat) : ∀ (fs : List Field) (o : Nat) (xs ys : List AV) (us vs : Array Value) (b : Bool), VRels ρ xs (us.toList.drop o) → VRels ρ ys (vs.toList.drop o) →
    eqFields P fs o xs ys = some b → (Op.eqFields (d + 1) us vs fs).run P w = .ok b w
  | [], o, xs, ys, us, vs, b, hx, hy, h => by
    unfold eqFields at h
    split at h
    · simp only [Option.some.injEq] at h; subst h; simp [Op.eqFields]
    · simp_all
    · cases h
  | f :: fs, o, xs, ys, us, vs, b, hx, hy, h => by
    cases xs with
    | nil => simp [eqFields] at h
    | cons x xs =>
      cases ys with
      | nil => simp [eqFields] at h
      | cons y ys =>
        simp only [eqFields] at h
        split at h
        · rename_i hf
          simp only [Bool.and_eq_true, bne_iff_ne, ne_eq, beq_iff_eq] at hf
          obtain ⟨hn, ho⟩ := hf
          simp only [Option.bind_eq_some_iff] at h
          obtain ⟨r, hr, h⟩ := h
          have hux : us[o]? = us.toList[o]? := by simp
          have split1 : ∀ (l : List Value) (z : AV) (zs : List AV), VRels ρ (z :: zs) (l.drop o) → ∃ u, l[o]? = some u ∧ VRel ρ z u ∧ VRels ρ zs (l.drop (o + 1)) := by
            intro l z zs hz
            cases hd : l.drop o with
            | nil => rw [hd] at hz; simp [VRels] at hz
            | cons u us' =>
              rw [hd] at hz
              simp only [VRels] at hz
              refine ⟨u, ?_, hz.1, ?_⟩
              · have := congrArg (·[0]?) hd
                simpa using this
              · have : l.drop (o + 1) = us' := by rw [← List.drop_drop, hd]; rfl
                rw [this]; exact hz.2
          obtain ⟨u, hu, hxu, hxs⟩ := split1 _ _ _ hx
          obtain ⟨v, hv, hyv, hys⟩ := split1 _ _ _ hy
          obtain ⟨h1, h2⟩ := eqBasic_run (P := P) (w := w) d hxu hyv hr
          rw [Array.getElem?_toList] at hu hv
          have pu : (Go.part f.type us f.offset).run P w = .ok u w := by simp [Go.part, isAgg_run h2, ho, hu]
          have pv : (Go.part f.type vs f.offset).run P w = .ok v w := by simp [Go.part, isAgg_run h2, ho, hv]
          simp only [Op.eqFields, ne_eq, hn, not_false_eq_true, if_true, Sem.run_bind, pu, pv, Result.andThen_ok, h1]
          cases r with
          | false => simp only [Bool.false_eq_true, if_false, Option.some.injEq] at h; subst h; simp
          | true =>
            simp only [if_true] at h
            simpa using eqFields_run d fs (o + 1) xs ys us vs b hxs hys h
        · cases h

section
variable (d : Nat) {t : TypeId}
theorem en_bool {a b : Bool} (hu : P.underlying t = some .bool) : (Op.equalIn (d + 1) t (.bool a) (.bool b)).run P w = .ok (a == b) w := by
  simp only [Op.equalIn, Sem.run_bind, run_underlying hu, Result.andThen_ok, Sem.run_pure]
theorem en_ptr_l {e : TypeId} {b : Option Addr} (hu : P.underlying t = some (.pointer e)) : (Op.equalIn (d + 1) t (.pointer none) (.pointer b)).run P w = .ok b.isNone w := by
  simp only [Op.equalIn, Sem.run_bind, run_underlying hu, Result.andThen_ok, Sem.run_pure]
theorem en_ptr_r {e : TypeId} {a : Addr} (hu : P.underlying t = some (.pointer e)) : (Op.equalIn (d + 1) t (.pointer (some a)) (.pointer none)).run P w = .ok false w := by
  simp only [Op.equalIn, Sem.run_bind, run_underlying hu, Result.andThen_ok, Sem.run_pure]
theorem en_if_l {ms : Array (String × TypeId)} {t' : TypeId} {v : Value} (hu : P.underlying t = some (.interface ms)) : (Op.equalIn (d + 1) t .nilIface (.iface t' v)).run P w = .ok false w := by
  simp only [Op.equalIn, Sem.run_bind, run_underlying hu, Result.andThen_ok, Sem.run_pure]
theorem en_if_r {ms : Array (String × TypeId)} {t' : TypeId} {v : Value} (hu : P.underlying t = some (.interface ms)) : (Op.equalIn (d + 1) t (.iface t' v) .nilIface).run P w = .ok false w := by
  simp only [Op.equalIn, Sem.run_bind, run_underlying hu, Result.andThen_ok, Sem.run_pure]
theorem en_sl_l {e : TypeId} {b : Option Addr} {l c l' c' : Nat} (hu : P.underlying t = some (.slice e)) : (Op.equalIn (d + 1) t (.slice none l c) (.slice b l' c')).run P w = .ok b.isNone w := by
  simp only [Op.equalIn, Sem.run_bind, run_underlying hu, Result.andThen_ok, Sem.run_pure]
theorem en_sl_r {e : TypeId} {a : Addr} {l c l' c' : Nat} (hu : P.underlying t = some (.slice e)) : (Op.equalIn (d + 1) t (.slice (some a) l c) (.slice none l' c')).run P w = .ok false w := by
  simp only [Op.equalIn, Sem.run_bind, run_underlying hu, Result.andThen_ok, Sem.run_pure]
theorem en_map_l {k e : TypeId} {b : Option Nat} (hu : P.underlying t = some (.map k e)) : (Op.equalIn (d + 1) t (.map none) (.map b)).run P w = .ok b.isNone w := by
  simp only [Op.equalIn, Sem.run_bind, run_underlying hu, Result.andThen_ok, Sem.run_pure]
theorem en_map_r {k e : TypeId} {a : Nat} (hu : P.underlying t = some (.map k e)) : (Op.equalIn (d + 1) t (.map (some a)) (.map none)).run P w = .ok false w := by
  simp only [Op.equalIn, Sem.run_bind, run_underlying hu, Result.andThen_ok, Sem.run_pure]
theorem en_fn_nn {ps rs : Array TypeId} {v : Bool} (hu : P.underlying t = some (.func ps rs v)) : (Op.equalIn (d + 1) t .nilFunc .nilFunc).run P w = .ok true w := by
  simp only [Op.equalIn, Sem.run_bind, run_underlying hu, Result.andThen_ok, Sem.run_pure]
theorem en_fn_l {ps rs : Array TypeId} {v : Bool} {f : Fn} {a b : Array Value} (hu : P.underlying t = some (.func ps rs v)) : (Op.equalIn (d + 1) t .nilFunc (.func f a b)).run P w = .ok false w := by
  simp only [Op.equalIn, Sem.run_bind, run_underlying hu, Result.andThen_ok, Sem.run_pure]
theorem en_fn_r {ps rs : Array TypeId} {v : Bool} {f : Fn} {a b : Array Value} (hu : P.underlying t = some (.func ps rs v)) : (Op.equalIn (d + 1) t (.func f a b) .nilFunc).run P w = .ok false w := by
  simp only [Op.equalIn, Sem.run_bind, run_underlying hu, Result.andThen_ok, Sem.run_pure]
theorem en_if_nn {ms : Array (String × TypeId)} (hu : P.underlying t = some (.interface ms)) : (Op.equalIn (d + 1) t .nilIface .nilIface).run P w = .ok true w := by
  simp only [Op.equalIn, Sem.run_bind, run_underlying hu, Result.andThen_ok, Sem.run_pure]
end

theorem eqAV_run' (d : Nat) {t : TypeId} {x y : AV} {xv yv : Value} {b : Bool} (hx : VRel ρ x xv) (hy : VRel ρ y yv) (h : eqAV P t x y = some b) :
    (Op.equalIn (d + 1 + 1) t xv yv).run P w = .ok b w := by
  unfold eqAV at h
  split at h
  · rename_i a b' hu
    rw [bool_rel hx, bool_rel hy]
    simp only [Option.some.injEq] at h
    subst h
    first | exact en_bool _ hu | exact en_ptr_l _ hu | exact en_ptr_r _ hu | exact en_if_l _ hu | exact en_if_r _ hu | exact en_sl_l _ hu | exact en_sl_r _ hu | exact en_map_l _ hu | exact en_map_r _ hu | exact en_fn_nn _ hu | exact en_fn_l _ hu | exact en_fn_r _ hu
  · rename_i e b' hu
    simp only [Option.some.injEq] at h
    subst h
    cases xv <;> try (simp [VRel] at hx; done)
    rename_i p
    cases p with
    | some _ => simp [VRel] at hx
    | none =>
      cases yv <;> try (cases b' <;> simp [VRel] at hy; done)
      rename_i q
      cases b' with
      | none => cases q with
        | none => first | exact en_bool _ hu | exact en_ptr_l _ hu | exact en_ptr_r _ hu | exact en_if_l _ hu | exact en_if_r _ hu | exact en_sl_l _ hu | exact en_sl_r _ hu | exact en_map_l _ hu | exact en_map_r _ hu | exact en_fn_nn _ hu | exact en_fn_l _ hu | exact en_fn_r _ hu
        | some _ => simp [VRel] at hy
      | some b' => cases q with
        | none => simp [VRel] at hy
        | some _ => first | exact en_bool _ hu | exact en_ptr_l _ hu | exact en_ptr_r _ hu | exact en_if_l _ hu | exact en_if_r _ hu | exact en_sl_l _ hu | exact en_sl_r _ hu | exact en_map_l _ hu | exact en_map_r _ hu | exact en_fn_nn _ hu | exact en_fn_l _ hu | exact en_fn_r _ hu
  · rename_i e a hne hu
    simp only [Option.some.injEq] at h
    subst h
    cases yv <;> try (simp [VRel] at hy; done)
    rename_i q
    cases q with
    | some _ => simp [VRel] at hy
    | none =>
      cases a with
      | none => simp at hne
      | some a =>
        obtain ⟨id, off⟩ := a
        obtain ⟨e', he', rfl⟩ := ptr_rel hx
        first | exact en_bool _ hu | exact en_ptr_l _ hu | exact en_ptr_r _ hu | exact en_if_l _ hu | exact en_if_r _ hu | exact en_sl_l _ hu | exact en_sl_r _ hu | exact en_map_l _ hu | exact en_map_r _ hu | exact en_fn_nn _ hu | exact en_fn_l _ hu | exact en_fn_r _ hu
  · rename_i ms t' v' hu
    simp only [Option.some.injEq] at h
    subst h
    cases xv <;> try (simp [VRel] at hx; done)
    cases yv <;> try (simp [VRel] at hy; done)
    first | exact en_bool _ hu | exact en_ptr_l _ hu | exact en_ptr_r _ hu | exact en_if_l _ hu | exact en_if_r _ hu | exact en_sl_l _ hu | exact en_sl_r _ hu | exact en_map_l _ hu | exact en_map_r _ hu | exact en_fn_nn _ hu | exact en_fn_l _ hu | exact en_fn_r _ hu
  · rename_i ms t' v' hu
    simp only [Option.some.injEq] at h
    subst h
    cases xv <;> try (simp [VRel] at hx; done)
    cases yv <;> try (simp [VRel] at hy; done)
    first | exact en_bool _ hu | exact en_ptr_l _ hu | exact en_ptr_r _ hu | exact en_if_l _ hu | exact en_if_r _ hu | exact en_sl_l _ hu | exact en_sl_r _ hu | exact en_map_l _ hu | exact en_map_r _ hu | exact en_fn_nn _ hu | exact en_fn_l _ hu | exact en_fn_r _ hu
  · rename_i e l1 c1 e1 b' l2 c2 e2 hu
    simp only [Option.some.injEq] at h
    subst h
    cases xv <;> try (simp [VRel] at hx; done)
    rename_i p _ _
    cases p with
    | some _ => simp [VRel] at hx
    | none =>
      cases yv <;> try (cases b' <;> simp [VRel] at hy; done)
      rename_i q _ _
      cases b' with
      | none => cases q with
        | none => first | exact en_bool _ hu | exact en_ptr_l _ hu | exact en_ptr_r _ hu | exact en_if_l _ hu | exact en_if_r _ hu | exact en_sl_l _ hu | exact en_sl_r _ hu | exact en_map_l _ hu | exact en_map_r _ hu | exact en_fn_nn _ hu | exact en_fn_l _ hu | exact en_fn_r _ hu
        | some _ => simp [VRel] at hy
      | some b' => cases q with
        | none => simp [VRel] at hy
        | some _ => first | exact en_bool _ hu | exact en_ptr_l _ hu | exact en_ptr_r _ hu | exact en_if_l _ hu | exact en_if_r _ hu | exact en_sl_l _ hu | exact en_sl_r _ hu | exact en_map_l _ hu | exact en_map_r _ hu | exact en_fn_nn _ hu | exact en_fn_l _ hu | exact en_fn_r _ hu
  · rename_i e a l1 c1 e1 l2 c2 e2 hne hu
    simp only [Option.some.injEq] at h
    subst h
    cases yv <;> try (simp [VRel] at hy; done)
    rename_i q _ _
    cases q with
    | some _ => simp [VRel] at hy
    | none =>
      cases xv <;> try (cases a <;> simp [VRel] at hx; done)
      rename_i p _ _
      cases a with
      | none => simp at hne
      | some a =>
        cases p with
        | none => simp [VRel] at hx
        | some _ => first | exact en_bool _ hu | exact en_ptr_l _ hu | exact en_ptr_r _ hu | exact en_if_l _ hu | exact en_if_r _ hu | exact en_sl_l _ hu | exact en_sl_r _ hu | exact en_map_l _ hu | exact en_map_r _ hu | exact en_fn_nn _ hu | exact en_fn_l _ hu | exact en_fn_r _ hu
  · rename_i e l2 c2 e2 hu
    simp only [Option.some.injEq] at h
    subst h
    cases xv <;> try (simp [VRel] at hx; done)
    rename_i p _ _
    cases p with
    | none => simp [VRel] at hx
    | some _ =>
      cases yv <;> try (simp [VRel] at hy; done)
      rename_i q _ _
      cases q with
      | some _ => simp [VRel] at hy
      | none => first | exact en_bool _ hu | exact en_ptr_l _ hu | exact en_ptr_r _ hu | exact en_if_l _ hu | exact en_if_r _ hu | exact en_sl_l _ hu | exact en_sl_r _ hu | exact en_map_l _ hu | exact en_map_r _ hu | exact en_fn_nn _ hu | exact en_fn_l _ hu | exact en_fn_r _ hu
  · rename_i e l2 c2 e2 hu
    simp only [Option.some.injEq] at h
    subst h
    cases xv <;> try (simp [VRel] at hx; done)
    rename_i p _ _
    cases p with
    | some _ => simp [VRel] at hx
    | none =>
      cases yv <;> try (simp [VRel] at hy; done)
      rename_i q _ _
      cases q with
      | none => simp [VRel] at hy
      | some _ => first | exact en_bool _ hu | exact en_ptr_l _ hu | exact en_ptr_r _ hu | exact en_if_l _ hu | exact en_if_r _ hu | exact en_sl_l _ hu | exact en_sl_r _ hu | exact en_map_l _ hu | exact en_map_r _ hu | exact en_fn_nn _ hu | exact en_fn_l _ hu | exact en_fn_r _ hu
  · rename_i k e b' hu
    simp only [Option.some.injEq] at h
    subst h
    cases xv <;> try (simp [VRel] at hx; done)
    rename_i p
    cases p with
    | some _ => simp [VRel] at hx
    | none =>
      cases yv <;> try (cases b' <;> simp [VRel] at hy; done)
      rename_i q
      cases b' with
      | none => cases q with
        | none => first | exact en_bool _ hu | exact en_ptr_l _ hu | exact en_ptr_r _ hu | exact en_if_l _ hu | exact en_if_r _ hu | exact en_sl_l _ hu | exact en_sl_r _ hu | exact en_map_l _ hu | exact en_map_r _ hu | exact en_fn_nn _ hu | exact en_fn_l _ hu | exact en_fn_r _ hu
        | some _ => simp [VRel] at hy
      | some b' => cases q with
        | none => simp [VRel] at hy
        | some _ => first | exact en_bool _ hu | exact en_ptr_l _ hu | exact en_ptr_r _ hu | exact en_if_l _ hu | exact en_if_r _ hu | exact en_sl_l _ hu | exact en_sl_r _ hu | exact en_map_l _ hu | exact en_map_r _ hu | exact en_fn_nn _ hu | exact en_fn_l _ hu | exact en_fn_r _ hu
  · rename_i k e a hne hu
    simp only [Option.some.injEq] at h
    subst h
    cases yv <;> try (simp [VRel] at hy; done)
    rename_i q
    cases q with
    | some _ => simp [VRel] at hy
    | none =>
      cases xv <;> try (cases a <;> simp [VRel] at hx; done)
      rename_i p
      cases a with
      | none => simp at hne
      | some a =>
        cases p with
        | none => simp [VRel] at hx
        | some _ => first | exact en_bool _ hu | exact en_ptr_l _ hu | exact en_ptr_r _ hu | exact en_if_l _ hu | exact en_if_r _ hu | exact en_sl_l _ hu | exact en_sl_r _ hu | exact en_map_l _ hu | exact en_map_r _ hu | exact en_fn_nn _ hu | exact en_fn_l _ hu | exact en_fn_r _ hu
  · rename_i ps rs v hu
    simp only [Option.some.injEq] at h
    subst h
    cases xv <;> try (simp [VRel] at hx; done)
    cases yv <;> try (simp [VRel] at hy; done)
    first | exact en_bool _ hu | exact en_ptr_l _ hu | exact en_ptr_r _ hu | exact en_if_l _ hu | exact en_if_r _ hu | exact en_sl_l _ hu | exact en_sl_r _ hu | exact en_map_l _ hu | exact en_map_r _ hu | exact en_fn_nn _ hu | exact en_fn_l _ hu | exact en_fn_r _ hu
  · rename_i ps rs v f a b' hu
    simp only [Option.some.injEq] at h
    subst h
    cases xv <;> try (simp [VRel] at hx; done)
    cases yv <;> try (simp [VRel] at hy; done)
    first | exact en_bool _ hu | exact en_ptr_l _ hu | exact en_ptr_r _ hu | exact en_if_l _ hu | exact en_if_r _ hu | exact en_sl_l _ hu | exact en_sl_r _ hu | exact en_map_l _ hu | exact en_map_r _ hu | exact en_fn_nn _ hu | exact en_fn_l _ hu | exact en_fn_r _ hu
  · rename_i ps rs v f a b' hu
    simp only [Option.some.injEq] at h
    subst h
    cases xv <;> try (simp [VRel] at hx; done)
    cases yv <;> try (simp [VRel] at hy; done)
    first | exact en_bool _ hu | exact en_ptr_l _ hu | exact en_ptr_r _ hu | exact en_if_l _ hu | exact en_if_r _ hu | exact en_sl_l _ hu | exact en_sl_r _ hu | exact en_map_l _ hu | exact en_map_r _ hu | exact en_fn_nn _ hu | exact en_fn_l _ hu | exact en_fn_r _ hu
  · rename_i fs xs ys hu
    obtain ⟨us, rfl, hxs⟩ := agg_rel hx
    obtain ⟨vs, rfl, hys⟩ := agg_rel hy
    unfold aggEq at h
    rw [hu] at h
    simp only at h
    split at h
    · rename_i hc
      simp only [Bool.and_eq_true, Bool.not_eq_true'] at hc
      have hfs : P.fieldsOf t = fs := by simp [Program.fieldsOf, hu]
      rw [run_equalIn_struct w (d + 1) t us vs (by rw [hfs]; exact hu) hc.1, hfs]
      exact eqFields_run d fs.toList 0 xs ys us vs b (by simpa using hxs) (by simpa using hys) h
    · cases h
  · cases h

theorem eqAV_run {t : TypeId} {x y : AV} {xv yv : Value} {b : Bool} (hx : VRel ρ x xv) (hy : VRel ρ y yv) (h : eqAV P t x y = some b) :
    (Op.equal t xv yv).run P w = .ok b w := eqAV_run' 9998 hx hy h

theorem equal_nilIface {t : TypeId} {ms : Array (String × TypeId)} (hu : P.underlying t = some (.interface ms)) : (Op.equal t .nilIface .nilIface).run P w = .ok true w :=
  en_if_nn 9999 hu

theorem eqAV_agg {t : TypeId} {xs ys : List AV} {b : Bool} (h : eqAV P t (.agg xs) (.agg ys) = some b) : P.eqGuardType P.depth t = false := by
  unfold eqAV at h
  cases hu : P.underlying t with
  | none => rw [hu] at h; simp at h
  | some d =>
    rw [hu] at h
    cases d <;> simp only at h <;> try (cases h; done)
    unfold aggEq at h
    rw [hu] at h
    simp only at h
    split at h
    · rename_i hc; simp only [Bool.and_eq_true, Bool.not_eq_true'] at hc; exact hc.2
    · cases h

/-- what equality asks first -/
theorem eqGuard_eq {t : TypeId} {ox oy : Operand} {x y : AV} {xv yv : Value} (kx : x ≠ .top) (ky : y ≠ .top) (hx : VRel ρ x xv) (hy : VRel ρ y yv)
    (h0 : x = .nilIface → y = .nilIface → (isNilLit ox || isNilLit oy) = true) (h1 : ∀ xs ys, x = .agg xs → y = .agg ys → P.eqGuardType P.depth t = false) (op : BinOp) :
    (Go.eqGuard op t ox oy xv yv).run P w = .ok () w := by
  have key : (Go.eqGuard .eql t ox oy xv yv).run P w = .ok () w := by
    unfold Go.eqGuard
    rw [if_neg (by decide)]
    split
    · -- two nil interface values
      have hxn : x = .nilIface := by cases x <;> first | exact absurd rfl kx | simp_all [VRel]
      have hyn : y = .nilIface := by cases y <;> first | exact absurd rfl ky | simp_all [VRel]
      have hh := h0 hxn hyn
      simp only [Bool.or_eq_true] at hh
      rcases hh with h1 | h1
      · cases ox with
        | const c => simp
        | _ => simp [isNilLit] at h1
      · cases oy with
        | const c => simp
        | _ => simp [isNilLit] at h1
    · -- two structs
      rename_i us vs
      obtain ⟨xs, rfl⟩ : ∃ xs, x = .agg xs := by cases x <;> first | exact absurd rfl kx | simp_all [VRel]
      obtain ⟨ys, rfl⟩ : ∃ ys, y = .agg ys := by cases y <;> first | exact absurd rfl ky | simp_all [VRel]
      have hg := h1 xs ys rfl rfl
      simp [hg]
    · rfl
  cases op <;> first
    | exact key
    | rfl

theorem eqGuard_run {op : BinOp} {t : TypeId} {ox oy : Operand} {x y : AV} {xv yv : Value} {v : AV} (hx : VRel ρ x xv) (hy : VRel ρ y yv) (h : binOp P op t ox oy x y = some v) :
    (Go.eqGuard op t ox oy xv yv).run P w = .ok () w := by
  by_cases ho : op = .eql ∨ op = .neq
  · have hno : ∀ z, eqAV P t .top z = none := by
      intro z; unfold eqAV; cases P.underlying t with
      | none => rfl
      | some d => cases d <;> rfl
    have hno2 : ∀ z, eqAV P t z .top = none := by
      intro z; unfold eqAV; cases P.underlying t with
      | none => rfl
      | some d => cases d <;> cases z <;> first | rfl | (rename_i a; cases a <;> rfl) | (rename_i a _ _ _; cases a <;> rfl)
    have kx : x ≠ .top := by
      rintro rfl
      rcases ho with rfl | rfl <;> cases y <;> simp [binOp, hno] at h
    have ky : y ≠ .top := by
      rintro rfl
      rcases ho with rfl | rfl <;> cases x <;> simp [binOp, hno2, symOp] at h
    refine eqGuard_eq kx ky hx hy ?_ ?_ op
    · rintro rfl rfl
      by_cases hn : (isNilLit ox || isNilLit oy) = true
      · exact hn
      · rcases ho with rfl | rfl <;> simp only [binOp, hn, Bool.false_eq_true, if_false] at h <;> cases h
    · rintro xs ys rfl rfl
      rcases ho with rfl | rfl <;> simp only [binOp, Option.map_eq_some_iff] at h <;> (obtain ⟨b, hb, _⟩ := h; exact eqAV_agg hb)
  · cases op <;> first
      | rfl
      | exact absurd (Or.inl rfl) ho
      | exact absurd (Or.inr rfl) ho

def eqable : AV → Bool
  | .int .. | .str _ | .gptr _ | .tuple _ | .top | .sym .. => false
  | _ => true

theorem eqAV_able {t : TypeId} {x y : AV} {b : Bool} (h : eqAV P t x y = some b) : eqable x = true := by
  unfold eqAV at h
  split at h <;> first
    | rfl
    | (rename_i a _ _ _; cases a <;> rfl)
    | (rename_i a _ _; cases a <;> rfl)
    | (rename_i a _; cases a <;> rfl)
    | (cases h; done)

theorem eql_spell {x : AV} {xv yv : Value} (hx : VRel ρ x xv) (he : eqable x = true) (t : TypeId) :
    Go.binOp .eql t xv yv = (do pure (.bool (← Op.equal t xv yv))) ∧ Go.binOp .neq t xv yv = (do pure (.bool (!(← Op.equal t xv yv)))) := by
  cases x <;> first
    | (simp [eqable] at he; done)
    | skip
  all_goals
    cases xv <;> first
      | (simp only [VRel] at hx; done)
      | exact ⟨rfl, rfl⟩

theorem sym_rel {i n : Nat} {xv : Value} (hx : VRel ρ (.sym i n) xv) : ∃ e, ρ i = some e ∧ e.sz ≤ 2305843009213693952 ∧ n ≤ 2305843009213693952 ∧ xv = .int .i64 ((e.sz + n : Nat) : Int) := by
  cases xv with
  | int k m => simp only [VRel] at hx; obtain ⟨rfl, e, he, h1, h2, rfl⟩ := hx; exact ⟨e, he, h1, h2, rfl⟩
  | _ => simp [VRel] at hx

theorem symOp_run {op : BinOp} {i n : Nat} {y v : AV} {xv yv : Value} (hx : VRel ρ (.sym i n) xv) (hy : VRel ρ y yv) (h : symOp op i n y = some v) (t : TypeId) : Gives P ρ w (Go.binOp op t xv yv) v := by
  obtain ⟨e, he, h1, h2, rfl⟩ := sym_rel hx
  have hw : ∀ z : Int, 0 ≤ z → z ≤ 9223372036854775807 → IntKind.i64.wrap z = z := by
    intro z hz0 hz1
    rw [IntKind.wrap_i64]; omega
  unfold symOp at h
  split at h
  · split at h <;> simp only [Option.some.injEq, reduceCtorEq] at h
    rename_i k hk
    subst h
    rw [int_rel hy]
    obtain ⟨u, hu1, hu2⟩ := intOp_run (P := P) (ρ := ρ) (w := w) (op := .add) (k := .i64) (a := ((e.sz + n : Nat) : Int)) (b := .ofNat k) rfl t
    refine ⟨u, hu1, ?_⟩
    rw [int_rel hu2]
    simp only [VRel]
    refine ⟨trivial, e, he, h1, hk, ?_⟩
    rw [hw _ (by simp; omega) (by simp; omega)]
    simp; omega
  · split at h <;> simp only [Option.some.injEq, reduceCtorEq] at h
    rename_i k hk
    subst h
    rw [int_rel hy]
    obtain ⟨u, hu1, hu2⟩ := intOp_run (P := P) (ρ := ρ) (w := w) (op := .sub) (k := .i64) (a := ((e.sz + n : Nat) : Int)) (b := .ofNat k) rfl t
    refine ⟨u, hu1, ?_⟩
    rw [int_rel hu2]
    simp only [VRel]
    refine ⟨trivial, e, he, h1, by omega, ?_⟩
    rw [hw _ (by simp; omega) (by simp; omega)]
    simp; omega
  · split at h <;> simp only [Option.some.injEq, reduceCtorEq] at h
    rename_i k hk
    subst h
    rw [int_rel hy]
    obtain ⟨u, hu1, hu2⟩ := intOp_run (P := P) (ρ := ρ) (w := w) (op := .eql) (k := .i64) (a := ((e.sz + n : Nat) : Int)) (b := .ofNat k) rfl t
    have hb : (((e.sz + n : Nat) : Int) == Int.ofNat k) = false := by rw [beq_eq_false_iff_ne]; intro c; simp at c; omega
    rw [hb] at hu2
    exact ⟨u, hu1, hu2⟩
  · split at h <;> simp only [Option.some.injEq, reduceCtorEq] at h
    rename_i k hk
    subst h
    rw [int_rel hy]
    obtain ⟨u, hu1, hu2⟩ := intOp_run (P := P) (ρ := ρ) (w := w) (op := .neq) (k := .i64) (a := ((e.sz + n : Nat) : Int)) (b := .ofNat k) rfl t
    have hb : (((e.sz + n : Nat) : Int) != Int.ofNat k) = true := by rw [bne_iff_ne]; intro c; simp at c; omega
    rw [hb] at hu2
    exact ⟨u, hu1, hu2⟩
  · split at h <;> simp only [Option.some.injEq, reduceCtorEq] at h
    rename_i k hk
    subst h
    rw [int_rel hy]
    obtain ⟨u, hu1, hu2⟩ := intOp_run (P := P) (ρ := ρ) (w := w) (op := .lss) (k := .i64) (a := ((e.sz + n : Nat) : Int)) (b := .ofNat k) rfl t
    have hb : decide (((e.sz + n : Nat) : Int) < Int.ofNat k) = false := by rw [decide_eq_false_iff_not]; simp; omega
    rw [hb] at hu2
    exact ⟨u, hu1, hu2⟩
  · split at h <;> simp only [Option.some.injEq, reduceCtorEq] at h
    rename_i k hk
    subst h
    rw [int_rel hy]
    obtain ⟨u, hu1, hu2⟩ := intOp_run (P := P) (ρ := ρ) (w := w) (op := .geq) (k := .i64) (a := ((e.sz + n : Nat) : Int)) (b := .ofNat k) rfl t
    have hb : decide (((e.sz + n : Nat) : Int) ≥ Int.ofNat k) = true := by rw [decide_eq_true_iff]; simp; omega
    rw [hb] at hu2
    exact ⟨u, hu1, hu2⟩
  · split at h <;> simp only [Option.some.injEq, reduceCtorEq] at h
    rename_i k hk
    subst h
    rw [int_rel hy]
    obtain ⟨u, hu1, hu2⟩ := intOp_run (P := P) (ρ := ρ) (w := w) (op := .gtr) (k := .i64) (a := ((e.sz + n : Nat) : Int)) (b := .ofNat k) rfl t
    have hb : decide (((e.sz + n : Nat) : Int) > Int.ofNat k) = true := by rw [decide_eq_true_iff]; simp; omega
    rw [hb] at hu2
    exact ⟨u, hu1, hu2⟩
  · split at h <;> simp only [Option.some.injEq, reduceCtorEq] at h
    rename_i j m hij
    subst h hij
    obtain ⟨e', he', h1', h2', rfl⟩ := sym_rel hy
    rw [he] at he'; simp only [Option.some.injEq] at he'; subst he'
    obtain ⟨u, hu1, hu2⟩ := intOp_run (P := P) (ρ := ρ) (w := w) (op := .eql) (k := .i64) (a := ((e.sz + n : Nat) : Int)) (b := ((e.sz + m : Nat) : Int)) rfl t
    have hb : (((e.sz + n : Nat) : Int) == ((e.sz + m : Nat) : Int)) = (n == m) := by
      by_cases c : n = m
      · subst c; simp
      · rw [beq_eq_false_iff_ne.2 (by intro d; simp at d; omega), beq_eq_false_iff_ne.2 c]
    rw [hb] at hu2
    exact ⟨u, hu1, hu2⟩
  · split at h <;> simp only [Option.some.injEq, reduceCtorEq] at h
    rename_i j m hij
    subst h hij
    obtain ⟨e', he', h1', h2', rfl⟩ := sym_rel hy
    rw [he] at he'; simp only [Option.some.injEq] at he'; subst he'
    obtain ⟨u, hu1, hu2⟩ := intOp_run (P := P) (ρ := ρ) (w := w) (op := .neq) (k := .i64) (a := ((e.sz + n : Nat) : Int)) (b := ((e.sz + m : Nat) : Int)) rfl t
    have hb : (((e.sz + n : Nat) : Int) != ((e.sz + m : Nat) : Int)) = !(n == m) := by
      by_cases c : n = m
      · subst c; simp
      · have : (((e.sz + n : Nat) : Int) != ((e.sz + m : Nat) : Int)) = true := by rw [bne_iff_ne]; intro d; simp at d; omega
        rw [this, beq_eq_false_iff_ne.2 c]; rfl
    rw [hb] at hu2
    exact ⟨u, hu1, hu2⟩
  · cases h

theorem binOp_run {op : BinOp} {t : TypeId} {ox oy : Operand} {x y : AV} {xv yv : Value} {v : AV} (hx : VRel ρ x xv) (hy : VRel ρ y yv) (h : binOp P op t ox oy x y = some v) :
    Gives P ρ w (Go.binOp op t xv yv) v := by
  unfold binOp at h
  split at h
  · exact symOp_run hx hy h t
  · rw [int_rel hx, int_rel hy]; exact shiftOp_run (Or.inl rfl) h t
  · rw [int_rel hx, int_rel hy]; exact shiftOp_run (Or.inr rfl) h t
  · rename_i k a l b hn1 hn2
    rw [int_rel hx, int_rel hy]
    split at h
    · rename_i hk; subst hk; exact intOp_run h t
    · cases h
  · rw [str_rel hx, str_rel hy]; exact strOp_run h t
  · split at h
    · split at h
      · rename_i ms hu
        simp only [Option.some.injEq] at h
        subst h
        cases xv <;> try (simp [VRel] at hx; done)
        cases yv <;> try (simp [VRel] at hy; done)
        refine Gives.bool ?_
        have := equal_nilIface (P := P) (w := w) hu
        simp [Go.binOp, this]
      · cases h
    · cases h
  · split at h
    · split at h
      · rename_i ms hu
        simp only [Option.some.injEq] at h
        subst h
        cases xv <;> try (simp [VRel] at hx; done)
        cases yv <;> try (simp [VRel] at hy; done)
        refine Gives.bool ?_
        have := equal_nilIface (P := P) (w := w) hu
        simp [Go.binOp, this]
      · cases h
    · cases h
  · simp only [Option.map_eq_some_iff] at h
    obtain ⟨b, hb, rfl⟩ := h
    have he := eqAV_run (P := P) (w := w) hx hy hb
    refine Gives.bool ?_
    have := (eql_spell (yv := yv) hx (eqAV_able hb) t).1
    rw [this]
    simp [he]
  · simp only [Option.map_eq_some_iff] at h
    obtain ⟨b, hb, rfl⟩ := h
    have he := eqAV_run (P := P) (w := w) hx hy hb
    refine Gives.bool ?_
    have := (eql_spell (yv := yv) hx (eqAV_able hb) t).2
    rw [this]
    simp [he]
  · cases h

theorem unOp_run {op : UnOp} {x v : AV} {xv : Value} (hx : VRel ρ x xv) (h : unOp op x = some v) : Gives P ρ w (Go.Op.unary op xv) v := by
  unfold unOp at h
  split at h
  · rw [int_rel hx]
    simp only [intOp, Option.some.injEq] at h
    subst h
    refine Gives.int ?_
    simp [Op.unary, Op.intArith]
  · rw [int_rel hx]
    simp only [intOp, Option.some.injEq] at h
    subst h
    refine Gives.int ?_
    simp only [Op.unary, Op.intBits, Sem.run_pure]
  · rw [bool_rel hx]
    simp only [Option.some.injEq] at h
    subst h
    refine Gives.bool ?_
    simp [Op.unary]
  · cases h
end
end AE
