/- Helps for pieces: one temporary that stays open; rows of operations; calls that are told. Conditions: none. -/
import Derived.Test.YtandggoanbdjkaaGreatDoorAEC
namespace AE
open Go Go.RowKit

mutual
theorem AV.same_refl : ∀ (a : AV), AV.same a a = true
  | .bool _ => by simp [AV.same]
  | .int _ _ => by simp [AV.same]
  | .str s => by
    show (s == s) = true
    rw [beq_toListBytes]; simp
  | .ptr _ => by simp [AV.same]
  | .gptr _ => by simp [AV.same]
  | .slice .. => by simp [AV.same]
  | .mt => rfl
  | .map _ => by simp [AV.same]
  | .func f x y => by simp [AV.same, AV.sames_refl x, AV.sames_refl y]
  | .nilFunc => rfl
  | .iface t v => by simp [AV.same, AV.same_refl v]
  | .nilIface => rfl
  | .agg xs => by simp [AV.same, AV.sames_refl xs]
  | .tuple xs => by simp [AV.same, AV.sames_refl xs]
  | .top => rfl
theorem AV.sames_refl : ∀ (a : List AV), AV.sames a a = true
  | [] => rfl
  | x :: xs => by simp [AV.sames, AV.same_refl x, AV.sames_refl xs]
end

/-- with one temporary more -/
def Told.with (d : Told) (t : Nat) (y : AV) : Told := { d with T := (t, y) :: d.T }

theorem Told.holds_with {d : Told} {s : St} {t : Nat} {y : AV} (h : d.holds s = true) (ht : s.T.get t = some y) (hy : AV.under d.next y = true) : (d.with t y).holds s = true := by
  simp only [Told.holds, Bool.and_eq_true] at h
  obtain ⟨⟨⟨h1, h2⟩, h3⟩, h4⟩ := h
  unfold Told.holds Told.with
  simp only [tmpsHold, FE.trGet_eq, ht, AV.same_refl, hy, h1, h2, h3, h4, Bool.and_self]

section
variable {P : Program}

noncomputable def runsToX (P : Program) (X : AE.Spec) (n : Nat) (l : List Code) (s : St) (x : AExit) (d : Told) (t : Nat) : Option AV :=
  FE.obind (codeL P (FE.both P X n).call (FE.both P X n).loop l s) fun p => FE.bcase (decide (p.1 = x) && d.holds p.2) (FE.trGet p.2.T t) none

theorem JS.of_runsX [Base] {X : AE.Spec} (hX : SpecOk P X) (hP : ProgOk P (drawOk P)) (hm : P.follows .mixedOrders = true) (n : Nat) {l : List Code} (hc : l.all (Draws (drawOk P)) = true) {s : St} {x : AExit} {d : Told} {t : Nat} {y : AV}
    (h : runsToX P X n l s x d t = some y) (hy : AV.under d.next y = true) : JS P l s x (d.with t y).st := by
  unfold runsToX at h
  rw [FE.obind_eq, Option.bind_eq_some_iff] at h
  obtain ⟨⟨x', s'⟩, hr, h⟩ := h
  rw [FE.bcase_eq] at h
  split at h
  · rename_i hd
    simp only [Bool.and_eq_true, decide_eq_true_eq] at hd
    obtain ⟨rfl, hd⟩ := hd
    rw [FE.trGet_eq] at h
    exact (JS.run hX hP hm n l hc s s' x' hr).weaken (Told.holds_with hd h hy)
  · cases h

theorem opsL_append (callF : CallF) (ops : Array Oper) : ∀ (l1 l2 : List Oper) (s : St), FE.opsL P callF ops (l1 ++ l2) s = FE.obind (FE.opsL P callF ops l1 s) (FE.opsL P callF ops l2)
  | [], l2, s => rfl
  | o :: l1, l2, s => by
    show FE.obind (FE.oper P callF ops s none o) (FE.opsL P callF ops (l1 ++ l2)) = FE.obind (FE.obind (FE.oper P callF ops s none o) (FE.opsL P callF ops l1)) (FE.opsL P callF ops l2)
    cases FE.oper P callF ops s none o with
    | none => rfl
    | some s1 => exact opsL_append callF ops l1 l2 s1

/-- does what is told hold of what came out? -/
noncomputable def holdsAfter (d : Told) (r : Option St) : Bool :=
  match r with
  | some s => d.holds s
  | none => false

/-- a region whose operations are run in two parts -/
theorem J.region2 [Base] {X : AE.Spec} (hX : SpecOk P X) (hP : ProgOk P (drawOk P)) (hm : P.follows .mixedOrders = true) (n : Nat) {id : Nat} {ops : Array Oper} (hc : Draws (drawOk P) (.region id ops false) = true) {k : Nat} {s s1 : St} {d : Told}
    (h1 : FE.opsL P (FE.both P X n).call ops (ops.toList.take k) s = some s1) (h2 : holdsAfter d (FE.opsL P (FE.both P X n).call ops (ops.toList.drop k) s1) = true) :
    J P (.region id ops false) s .normal d.st := by
  unfold holdsAfter at h2
  split at h2
  · rename_i s2 hs2
    have h : FE.opsL P (FE.both P X n).call ops ops.toList s = some s2 := by
      rw [← List.take_append_drop k ops.toList, opsL_append, h1]
      exact hs2
    refine (J.run hX hP hm n hc (s' := s2) (x := .normal) ?_).weaken h2
    rw [FE.opsL_eq, (FE.both_eq P X n).2.1] at h
    simp only [execCode, Bool.false_eq_true, if_false, h, Option.bind_some]
  · cases h2

theorem RunOk.of_callN [Base] {X : AE.Spec} (hX : SpecOk P X) (hP : ProgOk P (drawOk P)) (hm : P.follows .mixedOrders = true) (n : Nat) {f : FuncId} (he : ∀ args w, (callFunc f args).run P w = .ok (.enter f args) w) :
    RunOk P f ((FE.both P X n).call f) := by
  intro vs H v H' h ρ w us hr hu
  rw [FE.call_eq] at h
  rcases sound hX hP hm h hr hu with h1 | ⟨u, h1, _⟩
  · exact h1
  · rw [he] at h1; cases h1

noncomputable def altSpec (a b : List AV → Heap → Option (AV × Heap)) (args : List AV) (H : Heap) : Option (AV × Heap) :=
  @Option.rec _ (fun _ => Option (AV × Heap)) (b args H) (fun r => some r) (a args H)

theorem RunOk.alt [Base] {f : FuncId} {a b : List AV → Heap → Option (AV × Heap)} (ha : RunOk P f a) (hb : RunOk P f b) : RunOk P f (altSpec a b) := by
  intro vs H v H' h
  unfold altSpec at h
  cases hc : a vs H with
  | none => rw [hc] at h; exact hb vs H v H' h
  | some r => rw [hc] at h; simp only [Option.some.injEq] at h; subst h; exact ha vs H v H' hc

/-- one function more is told -/
noncomputable def addSpec (f : FuncId) (g : List AV → Heap → Option (AV × Heap)) (X : AE.Spec) : AE.Spec := fun k => FE.bcase (Nat.beq k f) (some g) (X k)

theorem SpecOk.add [Base] {f : FuncId} {g : List AV → Heap → Option (AV × Heap)} {X : AE.Spec} (hg : RunOk P f g) (hX : SpecOk P X) : SpecOk P (addSpec f g X) := by
  intro k g' h
  unfold addSpec at h
  rw [FE.bcase_eq] at h
  split at h
  · rename_i hk
    have := Nat.eq_of_beq_eq_true hk
    subst this
    simp only [Option.some.injEq] at h; subst h
    exact hg
  · exact hX k g' h

/-- what the kernel is asked of a closed call -/
noncomputable def answers (call : List AV → Heap → Option (AV × Heap)) (v : AV) : Bool :=
  match call [] ⟨.leaf, 0⟩ with
  | some (v', _) => AV.same v' v && AV.under 0 v
  | none => false

theorem ClosedCall.of_answers [Base] {X : AE.Spec} (hX : SpecOk P X) (hP : ProgOk P (drawOk P)) (hm : P.follows .mixedOrders = true) {n : Nat} {f : FuncId} {v : AV} (h : answers ((FE.both P X n).call f) v = true)
    (he : ∀ args w, (callFunc f args).run P w = .ok (.enter f args) w) : ClosedCall P f v := by
  unfold answers at h
  split at h
  · rename_i v' H' hc
    simp only [Bool.and_eq_true] at h
    have := AV.same_eq _ _ h.1
    subst this
    rw [FE.call_eq] at hc
    exact ClosedCall.of_callN hX hP hm hc h.2 (fun w => he _ w)
  · cases h

theorem ClosedCall.runOk [Base] {f : FuncId} {v : AV} (h : ClosedCall P f v) (he : ∀ args w, (callFunc f args).run P w = .ok (.enter f args) w) : RunOk P f (closedSpec v) :=
  ClosedCall.spec h (fun w => he _ w)
end
end AE
