/- The abstract evaluator: addresses, parts, numbers, comparisons. Conditions: none. -/
import Derived.Test.YtandggoanbdjkaaGreatDoorAEOps3
namespace AE
open Go

section
variable {P : Program} {ρ : Ren} {H : Heap} {w : World}

theorem ptr_rel {id off : Nat} {v : Value} (h : VRel ρ (.ptr (some (id, off))) v) : ∃ e, ρ id = some e ∧ v = .pointer (some ⟨e.blk, off, none⟩) := by
  cases v with
  | pointer a => cases a with
    | none => simp [VRel] at h
    | some a => simp only [VRel] at h; obtain ⟨e, he, rfl⟩ := h; exact ⟨e, he, rfl⟩
  | _ => simp [VRel] at h

theorem agg_rel {xs : List AV} {v : Value} (h : VRel ρ (.agg xs) v) : ∃ us : Array Value, v = .agg us ∧ VRels ρ xs us.toList := by
  cases v with
  | agg us => exact ⟨us, rfl, by simpa [VRel] using h⟩
  | _ => simp [VRel] at h

theorem tuple_rel {xs : List AV} {v : Value} (h : VRel ρ (.tuple xs) v) : ∃ us : Array Value, v = .tuple us ∧ VRels ρ xs us.toList := by
  cases v with
  | tuple us => exact ⟨us, rfl, by simpa [VRel] using h⟩
  | _ => simp [VRel] at h

theorem fieldAddr_run {t : TypeId} {a v : AV} {av : Value} {f : Nat} (ha : VRel ρ a av) (h : fieldAddr P t a f = some v) : Gives P ρ w (Instr.fieldAt t av f) v := by
  unfold fieldAddr at h
  split at h
  · rename_i fs id off hu
    obtain ⟨e, he, rfl⟩ := ptr_rel ha
    simp only [Option.bind_eq_some_iff] at h
    obtain ⟨fl, hf, n, hn, h⟩ := h
    split at h
    · cases h
    · rename_i hn0
      simp only [Option.some.injEq] at h
      subst h
      refine ⟨.pointer (some ⟨e.blk, off + fl.offset, none⟩), ?_, by simp only [VRel]; exact ⟨e, he, rfl⟩⟩
      simp [Instr.fieldAt, run_underlying hu, hf, Instr.sureAddr, fieldPlace, sizeOf_run hn, hn0, add_none]
  · cases h

theorem indexAddr_run {t : TypeId} {x i v : AV} {xv iv : Value} (hx : VRel ρ x xv) (hi : VRel ρ i iv) (h : indexAddr P t x i = some v) : Gives P ρ w (Instr.indexAt t xv iv) v := by
  unfold indexAddr at h
  split at h
  · rename_i e id off len cap ex k i hu
    rw [int_rel hi]
    cases xv with
    | slice av len' cap' =>
      cases av with
      | none => simp [VRel] at hx
      | some ad =>
        simp only [VRel] at hx
        obtain ⟨rfl, _, ent, he, rfl, _⟩ := hx
        split at h
        · rename_i hb
          simp only [Option.bind_eq_some_iff, Option.some.injEq] at h
          obtain ⟨n, hn, rfl⟩ := h
          refine ⟨.pointer (some ⟨ent.blk, off + i.toNat * n, none⟩), ?_, by simp only [VRel]; exact ⟨ent, he, rfl⟩⟩
          simp [Instr.indexAt, run_underlying hu, asIntOf, hb, sizeOf_run hn, add_none]
        · cases h
    | _ => simp [VRel] at hx
  · rename_i len e id off k i hu
    rw [int_rel hi]
    obtain ⟨ent, he, rfl⟩ := ptr_rel hx
    split at h
    · rename_i hb
      simp only [Option.bind_eq_some_iff, Option.some.injEq] at h
      obtain ⟨n, hn, rfl⟩ := h
      refine ⟨.pointer (some ⟨ent.blk, off + i.toNat * n, none⟩), ?_, by simp only [VRel]; exact ⟨ent, he, rfl⟩⟩
      simp [Instr.indexAt, run_underlying hu, asIntOf, Instr.sureAddr, hb, sizeOf_run hn, add_none]
    · cases h
  · cases h

theorem takeAt_rel {cs : List AV} {us : Array Value} {off n : Nat} {l : List AV} (hc : VRels ρ cs us.toList) (h : takeAt cs off n = some l) : VRels ρ l (us.extract off (off + n)).toList := by
  unfold takeAt at h
  split at h
  · simp only [Option.some.injEq] at h
    subst h
    have := VRels.take n _ _ (VRels.drop off _ _ hc)
    simpa [Array.toList_extract, List.extract_eq_take_drop] using this
  · cases h

theorem part_run {t : TypeId} {cs : List AV} {us : Array Value} {off : Nat} {v : AV} (hc : VRels ρ cs us.toList) (h : part P t cs off = some v) : Gives P ρ w (Go.part t us off) v := by
  unfold part at h
  simp only [Option.bind_eq_some_iff] at h
  obtain ⟨b, hb, h⟩ := h
  cases b with
  | true =>
    simp only [Option.bind_eq_some_iff, Option.map_eq_some_iff] at h
    obtain ⟨n, hn, l, hl, rfl⟩ := h
    exact ⟨.agg (us.extract off (off + n)), by simp [Go.part, isAgg_run hb, sizeOf_run hn], by simp only [VRel]; exact takeAt_rel hc hl⟩
  | false =>
    obtain ⟨u, hu, hr⟩ := VRels.get _ _ _ _ hc h
    rw [Array.getElem?_toList] at hu
    exact ⟨u, by simp [Go.part, isAgg_run hb, hu], hr⟩

theorem index_run {t : TypeId} {x i v : AV} {xv iv : Value} (hx : VRel ρ x xv) (hi : VRel ρ i iv) (h : index P t x i = some v) : Gives P ρ w (Instr.index t xv iv) v := by
  unfold index at h
  split at h
  · rename_i len e cs k i hu
    rw [int_rel hi]
    obtain ⟨us, rfl, hr⟩ := agg_rel hx
    split at h
    · rename_i hb
      simp only [Option.bind_eq_some_iff] at h
      obtain ⟨n, hn, h⟩ := h
      obtain ⟨u, hrun, hu'⟩ := part_run (P := P) (w := w) hr h
      exact ⟨u, by simp [Instr.index, run_underlying hu, asIntOf, hb, sizeOf_run hn, hrun], hu'⟩
    · cases h
  · rename_i s k i hu
    rw [int_rel hi, str_rel hx]
    split at h
    · rename_i hb
      simp only [Option.map_eq_some_iff] at h
      obtain ⟨b, hs, rfl⟩ := h
      refine ⟨.int .u8 b.toNat, ?_, by simp [VRel]⟩
      have hs' : s[i.toNat]? = some b := by
        have : i.toNat < s.data.size := by
          rcases Nat.lt_or_ge i.toNat s.data.size with h1 | h1
          · exact h1
          · rw [Array.getElem?_eq_none h1] at hs; cases hs
        rw [Array.getElem?_eq_getElem this] at hs
        simp only [Option.some.injEq] at hs
        rw [getElem?_pos s i.toNat this]
        exact congrArg some hs
      simp [Instr.index, run_underlying hu, asIntOf, hb, hs']
    · cases h
  · cases h

theorem field_run {t : TypeId} {x v : AV} {xv : Value} {f : Nat} (hx : VRel ρ x xv) (h : field P t x f = some v) : Gives P ρ w (Instr.field t xv f) v := by
  unfold field at h
  split at h
  · rename_i fs cs hu
    obtain ⟨us, rfl, hr⟩ := agg_rel hx
    simp only [Option.bind_eq_some_iff] at h
    obtain ⟨fl, hf, h⟩ := h
    obtain ⟨u, hrun, hu'⟩ := part_run (P := P) (w := w) hr h
    exact ⟨u, by simp [Instr.field, run_underlying hu, hf, asAgg, hrun], hu'⟩
  · cases h

theorem extract_run {x v : AV} {xv : Value} {i : Nat} {vs : List AV} (hx : VRel ρ x xv) (he : x = .tuple vs) (h : vs[i]? = some v) : Gives P ρ w (Instr.extract xv i) v := by
  subst he
  obtain ⟨us, rfl, hr⟩ := tuple_rel hx
  obtain ⟨u, hu, hr'⟩ := VRels.get _ _ _ _ hr h
  rw [Array.getElem?_toList] at hu
  exact ⟨u, by simp [Instr.extract, hu], hr'⟩

theorem Gives.int {s : Sem Value} {k : IntKind} {n : Int} (h : s.run P w = .ok (.int k n) w) : Gives P ρ w s (.int k n) := ⟨_, h, by simp [VRel]⟩
theorem Gives.bool {s : Sem Value} {b : Bool} (h : s.run P w = .ok (.bool b) w) : Gives P ρ w s (.bool b) := ⟨_, h, by simp [VRel]⟩
theorem Gives.str {s : Sem Value} {b : ByteArray} (h : s.run P w = .ok (.string b) w) : Gives P ρ w s (.str b) := ⟨_, h, by simp [VRel]⟩

theorem intOp_run {op : BinOp} {k : IntKind} {a b : Int} {v : AV} (h : intOp op k a b = some v) (t : TypeId) :
    Gives P ρ w (Go.binOp op t (.int k a) (.int k b)) v := by
  cases op <;> simp only [intOp] at h <;> first
    | (cases h; done)
    | (split at h
       · cases h
       · rename_i hb
         simp only [Option.some.injEq] at h
         subst h
         refine Gives.int ?_
         simp [Go.binOp, Op.intDiv, hb])
    | (simp only [Option.some.injEq] at h
       subst h
       first
         | (refine Gives.int ?_; simp only [Go.binOp, Op.intArith, Op.intBits, ne_eq, not_true_eq_false, if_false, Sem.run_pure])
         | (refine Gives.bool ?_; simp only [Go.binOp, Op.intCmp, ne_eq, not_true_eq_false, if_false, Sem.run_pure]))

theorem shiftOp_run {op : BinOp} {k l : IntKind} {a b : Int} {v : AV} (ho : op = .shl ∨ op = .shr) (h : shiftOp op k a b = some v) (t : TypeId) :
    Gives P ρ w (Go.binOp op t (.int k a) (.int l b)) v := by
  unfold shiftOp at h
  split at h
  · cases h
  · rename_i hb
    rcases ho with rfl | rfl <;> simp only [Option.some.injEq] at h <;> subst h
    · refine Gives.int ?_; simp only [Go.binOp, Op.shift, hb, if_false, Sem.run_pure]
    · refine Gives.int ?_; simp only [Go.binOp, Op.shift, hb, if_false, Sem.run_pure]

theorem strOp_run {op : BinOp} {x y : ByteArray} {v : AV} (h : strOp op x y = some v) (t : TypeId) : Gives P ρ w (Go.binOp op t (.string x) (.string y)) v := by
  cases op <;> simp only [strOp] at h <;> first
    | (cases h; done)
    | skip
  case add =>
    split at h
    · rename_i hb
      simp only [Option.some.injEq] at h
      subst h
      have : ¬ (((x.size + y.size : Nat) : Int) > IntKind.i64.max) := by
        have : IntKind.i64.max = 9223372036854775807 := by decide
        omega
      refine Gives.str ?_
      simp only [Go.binOp, Op.stringOp, this, if_false, Sem.run_pure]
    · cases h
  all_goals
    simp only [Option.some.injEq] at h
    subst h
    refine Gives.bool ?_
    simp only [Go.binOp, Op.stringOp, Sem.run_pure]
end
end AE
