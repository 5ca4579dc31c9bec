/- Helps for pieces: one temporary that stays open; rows of operations; calls that are told. Conditions: none. -/
import Derived.Test.YtandggoanbdjkaaGreatDoorWAEC
namespace AE
open Go Go.RowKit

mutual
theorem AV.same_refl : ∀ (a : AV), AV.same a a = true
  | .bool _ => by simp [AV.same]
  | .int _ _ => by simp [AV.same]
  | .str s => by
    show (s == s) = true
    rw [beq_toListBytes]; simp
  | .ptr _ => by simp [AV.same]
  | .gptr _ => by simp [AV.same]
  | .slice .. => by simp [AV.same]
  | .mt => rfl
  | .map _ => by simp [AV.same]
  | .func f x y => by simp [AV.same, AV.sames_refl x, AV.sames_refl y]
  | .nilFunc => rfl
  | .iface t v => by simp [AV.same, AV.same_refl v]
  | .nilIface => rfl
  | .agg xs => by simp [AV.same, AV.sames_refl xs]
  | .tuple xs => by simp [AV.same, AV.sames_refl xs]
  | .top => rfl
  | .sym _ _ => by simp [AV.same]
theorem AV.sames_refl : ∀ (a : List AV), AV.sames a a = true
  | [] => rfl
  | x :: xs => by simp [AV.sames, AV.same_refl x, AV.sames_refl xs]
end

/-- with one temporary more -/
def Told.with (d : Told) (t : Nat) (y : AV) : Told := { d with T := (t, y) :: d.T }

theorem Told.holds_with {d : Told} {s : St} {t : Nat} {y : AV} (h : d.holds s = true) (ht : s.T.get t = some y) (hy : AV.under d.next y = true) : (d.with t y).holds s = true := by
  simp only [Told.holds, Bool.and_eq_true] at h
  obtain ⟨⟨⟨h1, h2⟩, h3⟩, h4⟩ := h
  unfold Told.holds Told.with
  simp only [tmpsHold, FE.trGet_eq, ht, AV.same_refl, hy, h1, h2, h3, h4, Bool.and_self]

section
variable {P : Program} {K : Ren}

noncomputable def runsToX (P : Program) (X : AE.Spec) (n : Nat) (l : List Code) (s : St) (x : AExit) (d : Told) (t : Nat) : Option AV :=
  FE.obind (codeL P (FE.both P X n).call (FE.both P X n).loop l s) fun p => FE.bcase (decide (p.1 = x) && d.holds p.2) (FE.trGet p.2.T t) none

theorem JS.of_runsX [Base] {X : AE.Spec} (hX : SpecOk P X) (hP : ProgOk P (drawOk P)) (hm : P.follows .mixedOrders = true) (n : Nat) {l : List Code} (hc : l.all (Draws (drawOk P)) = true) {s : St} {x : AExit} {d : Told} {t : Nat} {y : AV}
    (hK : K.under d.next) (h : runsToX P X n l s x d t = some y) (hy : AV.under d.next y = true) : JS P K l s x (d.with t y).st := by
  unfold runsToX at h
  rw [FE.obind_eq, Option.bind_eq_some_iff] at h
  obtain ⟨⟨x', s'⟩, hr, h⟩ := h
  rw [FE.bcase_eq] at h
  split at h
  · rename_i hd
    simp only [Bool.and_eq_true, decide_eq_true_eq] at hd
    obtain ⟨rfl, hd⟩ := hd
    rw [FE.trGet_eq] at h
    exact (JS.run hX hP hm n l hc s s' x' hr).weaken hK (Told.holds_with hd h hy)
  · cases h

theorem opsL_append (callF : CallF) (ops : Array Oper) : ∀ (l1 l2 : List Oper) (s : St), FE.opsL P callF ops (l1 ++ l2) s = FE.obind (FE.opsL P callF ops l1 s) (FE.opsL P callF ops l2)
  | [], l2, s => rfl
  | o :: l1, l2, s => by
    show FE.obind (FE.oper P callF ops s none o) (FE.opsL P callF ops (l1 ++ l2)) = FE.obind (FE.obind (FE.oper P callF ops s none o) (FE.opsL P callF ops l1)) (FE.opsL P callF ops l2)
    cases FE.oper P callF ops s none o with
    | none => rfl
    | some s1 => exact opsL_append callF ops l1 l2 s1

/-- does what is told hold of what came out? -/
noncomputable def holdsAfter (d : Told) (r : Option St) : Bool :=
  match r with
  | some s => d.holds s
  | none => false

/-- a region whose operations are run in two parts -/
theorem J.region2 [Base] {X : AE.Spec} (hX : SpecOk P X) (hP : ProgOk P (drawOk P)) (hm : P.follows .mixedOrders = true) (n : Nat) {id : Nat} {ops : Array Oper} (hc : Draws (drawOk P) (.region id ops false) = true) {k : Nat} {s s1 : St} {d : Told}
    (hK : K.under d.next) (h1 : FE.opsL P (FE.both P X n).call ops (ops.toList.take k) s = some s1) (h2 : holdsAfter d (FE.opsL P (FE.both P X n).call ops (ops.toList.drop k) s1) = true) :
    J P K (.region id ops false) s .normal d.st := by
  unfold holdsAfter at h2
  split at h2
  · rename_i s2 hs2
    have h : FE.opsL P (FE.both P X n).call ops ops.toList s = some s2 := by
      rw [← List.take_append_drop k ops.toList, opsL_append, h1]
      exact hs2
    refine (J.run hX hP hm n hc (s' := s2) (x := .normal) ?_).weaken hK h2
    rw [FE.opsL_eq, (FE.both_eq P X n).2.1] at h
    simp only [execCode, Bool.false_eq_true, if_false, h, Option.bind_some]
  · cases h2

theorem RunOk.of_callN [Base] {X : AE.Spec} (hX : SpecOk P X) (hP : ProgOk P (drawOk P)) (hm : P.follows .mixedOrders = true) (n : Nat) {f : FuncId} (he : ∀ args w, (callFunc f args).run P w = .ok (.enter f args) w) :
    RunOk P f ((FE.both P X n).call f) := by
  intro vs H v H' h ρ w us hr hu
  rw [FE.call_eq] at h
  rcases sound hX hP hm h hr hu with h1 | ⟨u, h1, _⟩
  · exact h1
  · rw [he] at h1; cases h1

noncomputable def altSpec (a b : List AV → Heap → Option (AV × Heap)) (args : List AV) (H : Heap) : Option (AV × Heap) :=
  @Option.rec _ (fun _ => Option (AV × Heap)) (b args H) (fun r => some r) (a args H)

theorem RunOk.alt [Base] {f : FuncId} {a b : List AV → Heap → Option (AV × Heap)} (ha : RunOk P f a) (hb : RunOk P f b) : RunOk P f (altSpec a b) := by
  intro vs H v H' h
  unfold altSpec at h
  cases hc : a vs H with
  | none => rw [hc] at h; exact hb vs H v H' h
  | some r => rw [hc] at h; simp only [Option.some.injEq] at h; subst h; exact ha vs H v H' hc

/-- one function more is told -/
noncomputable def addSpec (f : FuncId) (g : List AV → Heap → Option (AV × Heap)) (X : AE.Spec) : AE.Spec := fun k => FE.bcase (Nat.beq k f) (some g) (X k)

theorem SpecOk.add [Base] {f : FuncId} {g : List AV → Heap → Option (AV × Heap)} {X : AE.Spec} (hg : RunOk P f g) (hX : SpecOk P X) : SpecOk P (addSpec f g X) := by
  intro k g' h
  unfold addSpec at h
  rw [FE.bcase_eq] at h
  split at h
  · rename_i hk
    have := Nat.eq_of_beq_eq_true hk
    subst this
    simp only [Option.some.injEq] at h; subst h
    exact hg
  · exact hX k g' h

/-- what the kernel is asked of a closed call -/
noncomputable def answers (call : List AV → Heap → Option (AV × Heap)) (v : AV) : Bool :=
  match call [] ⟨.leaf, 0⟩ with
  | some (v', _) => AV.same v' v && AV.under 0 v
  | none => false

theorem ClosedCall.of_answers [Base] {X : AE.Spec} (hX : SpecOk P X) (hP : ProgOk P (drawOk P)) (hm : P.follows .mixedOrders = true) {n : Nat} {f : FuncId} {v : AV} (h : answers ((FE.both P X n).call f) v = true)
    (he : ∀ args w, (callFunc f args).run P w = .ok (.enter f args) w) : ClosedCall P f v := by
  unfold answers at h
  split at h
  · rename_i v' H' hc
    simp only [Bool.and_eq_true] at h
    have := AV.same_eq _ _ h.1
    subst this
    rw [FE.call_eq] at hc
    exact ClosedCall.of_callN hX hP hm hc h.2 (fun w => he _ w)
  · cases h

theorem ClosedCall.runOk [Base] {f : FuncId} {v : AV} (h : ClosedCall P f v) (he : ∀ args w, (callFunc f args).run P w = .ok (.enter f args) w) : RunOk P f (closedSpec v) :=
  ClosedCall.spec h (fun w => he _ w)
end
end AE
/- Between two rounds: names are bound anew, a counter's name is moved up. Conditions: none. -/
namespace AE
open Go Go.RowKit

mutual
/-- names turned by φ; what is counted from a name moved up by δ -/
def AV.shift (z : Bool) (φ : Nat → Nat) (δ : Nat) : AV → AV
  | .ptr (some (i, o)) => .ptr (some (φ i, o))
  | .slice (some (i, o)) l c ex => .slice (some (φ i, o)) l c ex
  | .map (some i) => .map (some (φ i))
  | .sym i n => bif z then .int .i64 (.ofNat (n + δ)) else .sym i (n + δ)
  | .func f x y => .func f (AV.shifts z φ δ x) (AV.shifts z φ δ y)
  | .iface t v => .iface t (AV.shift z φ δ v)
  | .agg xs => .agg (AV.shifts z φ δ xs)
  | .tuple xs => .tuple (AV.shifts z φ δ xs)
  | v => v
def AV.shifts (z : Bool) (φ : Nat → Nat) (δ : Nat) : List AV → List AV
  | [] => []
  | x :: xs => AV.shift z φ δ x :: AV.shifts z φ δ xs
end

mutual
/-- names below N; name g for counters alone -/
def AV.okG (g N : Nat) : AV → Bool
  | .ptr (some (i, _)) => Nat.blt i N && !(Nat.beq i g)
  | .slice (some (i, _)) _ _ _ => Nat.blt i N && !(Nat.beq i g)
  | .map (some i) => Nat.blt i N && !(Nat.beq i g)
  | .sym i n => Nat.beq i g && Nat.ble n 2305843009213693952
  | .func _ x y => AV.okGs g N x && AV.okGs g N y
  | .iface _ v => AV.okG g N v
  | .agg xs => AV.okGs g N xs
  | .tuple xs => AV.okGs g N xs
  | _ => true
def AV.okGs (g N : Nat) : List AV → Bool
  | [] => true
  | x :: xs => AV.okG g N x && AV.okGs g N xs
end

mutual
theorem VRel.shift {ρ ρ' : Ren} {φ : Nat → Nat} {g N δ : Nat} {z : Bool} (h : ∀ i e, i < N → i ≠ g → ρ (φ i) = some e → ρ' i = some e)
    (hg : ∀ e, ρ g = some e → ρ' g = some { e with sz := e.sz + δ } ∧ e.sz + δ ≤ 2305843009213693952) (hz : z = true → ∃ e, ρ g = some e ∧ e.sz = 0) : ∀ (x : AV) (v : Value), AV.okG g N x = true → VRel ρ (AV.shift z φ δ x) v → VRel ρ' x v
  | x, v, hb, hr => by
    cases x with
    | ptr a =>
      rcases a with _ | ⟨i, o⟩
      · cases v with
        | pointer b => cases b <;> exact hr
        | _ => exact hr
      · cases v with
        | pointer b =>
          cases b with
          | none => exact hr
          | some b =>
            simp only [AV.okG, Bool.and_eq_true, Bool.not_eq_true', Nat.blt_eq] at hb
            simp only [VRel, AV.shift] at *
            obtain ⟨e, he, hb'⟩ := hr
            exact ⟨e, h i e hb.1 (fun c => by rw [c] at hb; simp at hb) he, hb'⟩
        | _ => exact hr
    | slice a l c ex =>
      rcases a with _ | ⟨i, o⟩
      · cases v with
        | slice b l' c' => cases b <;> exact hr
        | _ => exact hr
      · cases v with
        | slice b l' c' =>
          cases b with
          | none => exact hr
          | some b =>
            simp only [AV.okG, Bool.and_eq_true, Bool.not_eq_true', Nat.blt_eq] at hb
            simp only [VRel, AV.shift] at *
            obtain ⟨hl, hlc, e, he, hb'⟩ := hr
            exact ⟨hl, hlc, e, h i e hb.1 (fun c => by rw [c] at hb; simp at hb) he, hb'⟩
        | _ => exact hr
    | map a =>
      rcases a with _ | i
      · cases v with
        | map b => cases b <;> exact hr
        | _ => exact hr
      · cases v with
        | map b =>
          cases b with
          | none => exact hr
          | some b =>
            simp only [AV.okG, Bool.and_eq_true, Bool.not_eq_true', Nat.blt_eq] at hb
            simp only [VRel, AV.shift] at *
            obtain ⟨e, he, hb'⟩ := hr
            exact ⟨e, h i e hb.1 (fun c => by rw [c] at hb; simp at hb) he, hb'⟩
        | _ => exact hr
    | sym i n =>
      cases v with
      | int k m =>
        have hb2 := hb
        simp only [AV.okG, Bool.and_eq_true] at hb2
        have hig : i = g := Nat.eq_of_beq_eq_true hb2.1
        have hn := Nat.le_of_ble_eq_true hb2.2
        subst hig
        cases z with
        | false =>
          simp only [VRel, AV.shift, cond_false] at *
          obtain ⟨hk, e, he, h1, h2, rfl⟩ := hr
          obtain ⟨h3, h4⟩ := hg e he
          exact ⟨hk, _, h3, h4, by omega, by simp; omega⟩
        | true =>
          obtain ⟨e, he, h0⟩ := hz rfl
          obtain ⟨h3, h4⟩ := hg e he
          simp only [VRel, AV.shift, cond_true, Int.ofNat_eq_natCast] at *
          obtain ⟨rfl, rfl⟩ := hr
          exact ⟨rfl, _, h3, h4, hn, by simp [h0]; omega⟩
      | _ => cases z <;> simp [AV.shift, VRel] at hr
    | func k a b =>
      cases v with
      | func fn a' b' =>
        simp only [AV.okG, Bool.and_eq_true] at hb
        simp only [VRel, AV.shift] at *
        exact ⟨hr.1, VRels.shift h hg hz _ _ hb.1 hr.2.1, VRels.shift h hg hz _ _ hb.2 hr.2.2⟩
      | _ => exact hr
    | iface t a =>
      cases v with
      | iface t' a' =>
        simp only [AV.okG] at hb
        simp only [VRel, AV.shift] at *
        exact ⟨hr.1, VRel.shift h hg hz _ _ hb hr.2⟩
      | _ => exact hr
    | agg xs =>
      cases v with
      | agg ys =>
        simp only [AV.okG] at hb
        simp only [VRel, AV.shift] at *; exact VRels.shift h hg hz _ _ hb hr
      | _ => exact hr
    | tuple xs =>
      cases v with
      | tuple ys =>
        simp only [AV.okG] at hb
        simp only [VRel, AV.shift] at *; exact VRels.shift h hg hz _ _ hb hr
      | _ => exact hr
    | gptr g => cases v with
      | pointer b => cases b <;> exact hr
      | _ => exact hr
    | mt => cases v with
      | slice b l c => cases b <;> exact hr
      | _ => exact hr
    | top => simp [VRel]
    | _ => cases v <;> exact hr
theorem VRels.shift {ρ ρ' : Ren} {φ : Nat → Nat} {g N δ : Nat} {z : Bool} (h : ∀ i e, i < N → i ≠ g → ρ (φ i) = some e → ρ' i = some e)
    (hg : ∀ e, ρ g = some e → ρ' g = some { e with sz := e.sz + δ } ∧ e.sz + δ ≤ 2305843009213693952) (hz : z = true → ∃ e, ρ g = some e ∧ e.sz = 0) : ∀ (xs : List AV) (vs : List Value), AV.okGs g N xs = true → VRels ρ (AV.shifts z φ δ xs) vs → VRels ρ' xs vs
  | [], [], _, _ => trivial
  | [], _ :: _, _, hr => by simp [VRels, AV.shifts] at hr
  | _ :: _, [], _, hr => by simp [VRels, AV.shifts] at hr
  | x :: xs, v :: vs, hb, hr => by
    simp only [AV.okGs, Bool.and_eq_true] at hb
    simp only [VRels, AV.shifts] at *
    exact ⟨VRel.shift h hg hz _ _ hb.1 hr.1, VRels.shift h hg hz _ _ hb.2 hr.2⟩
end

theorem AV.shifts_get (z : Bool) (f : Nat → Nat) (δ : Nat) : ∀ (l : List AV) (k : Nat), (AV.shifts z f δ l)[k]? = (l[k]?).map (AV.shift z f δ)
  | [], k => by simp [AV.shifts]
  | x :: l, 0 => by simp [AV.shifts]
  | x :: l, k + 1 => by simp only [AV.shifts, List.getElem?_cons_succ]; exact AV.shifts_get z f δ l k
theorem AV.okGs_get {g N : Nat} : ∀ (l : List AV) (k : Nat) (x : AV), AV.okGs g N l = true → l[k]? = some x → AV.okG g N x = true
  | [], k, x, _, h => by simp at h
  | y :: l, 0, x, hb, h => by
    simp only [AV.okGs, Bool.and_eq_true] at hb
    simp only [List.getElem?_cons_zero, Option.some.injEq] at h
    subst h; exact hb.1
  | y :: l, k + 1, x, hb, h => by
    simp only [AV.okGs, Bool.and_eq_true] at hb
    exact AV.okGs_get l k x hb.2 (by simpa using h)

/-- does a row of cells begin as is told? (maps: not here) -/
noncomputable def Lay.begins (z : Bool) (φ : Nat → Nat) (δ g N : Nat) : Lay → AObj → Bool
  | .cells t gr l, .cells b => Nat.beq b.t t && (b.g == gr) && Nat.ble (FE.len l) b.n && (match FE.bLoad b (FE.len l) 0 with | some l' => AV.sames l' (AV.shifts z φ δ l) | none => false) && AV.okGs g N l
  | _, _ => false

theorem Lay.begins_orel {P : Program} {ρ ρ' : Ren} {φ : Nat → Nat} {g N δ : Nat} {z : Bool} (h : ∀ i e, i < N → i ≠ g → ρ (φ i) = some e → ρ' i = some e)
    (hg : ∀ e, ρ g = some e → ρ' g = some { e with sz := e.sz + δ } ∧ e.sz + δ ≤ 2305843009213693952) (hz : z = true → ∃ e, ρ g = some e ∧ e.sz = 0) {y : Lay} {o : AObj} {e : Ent} {ob : Option Obj} (hh : y.begins z φ δ g N o = true) (ho : ORel P ρ e o ob) : ORel P ρ' e y.obj ob := by
  cases y with
  | map es => cases o <;> simp [Lay.begins] at hh
  | cells t gr l =>
    cases o with
    | cells b =>
      simp only [Lay.begins, Bool.and_eq_true, beq_iff_eq] at hh
      obtain ⟨⟨⟨⟨h1, h2⟩, h3⟩, h4⟩, h5⟩ := hh
      have h1 := Nat.eq_of_beq_eq_true h1
      have h3 := Nat.le_of_ble_eq_true h3
      rw [FE.len_eq] at h3 h4
      rw [FE.bLoad_eq] at h4
      cases hl : b.load 0 l.length with
      | none => rw [hl] at h4; simp at h4
      | some l' =>
        rw [hl] at h4
        have := AV.sames_eq _ _ h4
        subst this
        cases ob with
        | none => simp [ORel] at ho
        | some ob =>
          cases ob with
          | cells cs T fr =>
            simp only [ORel, Lay.obj] at *
            obtain ⟨g1, g2, g3, g4, g5, g6⟩ := ho
            obtain ⟨_, hgl⟩ := Blk.load_spec b _ _ _ hl
            refine ⟨by rw [g1, h1]; rfl, g2, by show l.length ≤ _; omega, g4, fun hgt => ?_, fun k hk => ?_⟩
            · have : b.g = true := by rw [h2]; exact hgt
              have := g5 this
              rw [h1] at this; exact this
            · have hk : k < l.length := hk
              obtain ⟨x, v, x1, x2, x3⟩ := g6 k (by omega)
              have hx := hgl k hk
              rw [Nat.zero_add, x1, AV.shifts_get, List.getElem?_eq_getElem hk] at hx
              simp only [Option.map_some, Option.some.injEq] at hx
              subst hx
              exact ⟨l[k], v, by rw [Blk.get_ofList]; simp [hk], x2, VRel.shift h hg hz _ _ (AV.okGs_get _ k _ h5 (by simp [hk])) x3⟩
          | _ => simp [ORel] at ho
    | _ => simp [Lay.begins] at hh

noncomputable def tmpsShift (z : Bool) (φ : Nat → Nat) (δ g N : Nat) (T : Tr AV) : List (Nat × AV) → Bool
  | [] => true
  | (t, v) :: l => (match FE.trGet T t with | some v' => AV.same v' (AV.shift z φ δ v) && AV.okG g N v | none => false) && tmpsShift z φ δ g N T l
noncomputable def heapShift (z : Bool) (φ : Nat → Nat) (δ g N : Nat) (m : Tr AObj) : List (Nat × Lay) → Bool
  | [] => true
  | (i, y) :: l => Nat.blt i N && !(Nat.beq i g) && (match FE.trGet m (φ i) with | some o => y.begins z φ δ g N o | none => false) && heapShift z φ δ g N m l

/-- which names stand where: those below lo stay -/
def nameOf (lo : Nat) (σ : List Nat) (i : Nat) : Nat := if Nat.blt i lo then i else σ.getD (i - lo) 0

/-- does a state say what is told, names from lo on turned by σ, what is counted from g moved up by δ? -/
noncomputable def Told.holdsS (d : Told) (z : Bool) (lo g : Nat) (σ : List Nat) (δ : Nat) (s : St) : Bool :=
  Nat.beq s.n d.n && s.ds.isEmpty && Nat.beq (lo + FE.len σ) d.next && Nat.blt g lo && distinct σ && !(σ.any fun i => Nat.blt i lo) && tmpsShift z (nameOf lo σ) δ g d.next s.T d.T && heapShift z (nameOf lo σ) δ g d.next s.H.m d.O

theorem tmpsShift_mem {z : Bool} {φ : Nat → Nat} {δ g N : Nat} {T : Tr AV} : ∀ (l : List (Nat × AV)), tmpsShift z φ δ g N T l = true → ∀ t v, (t, v) ∈ l → T.get t = some (AV.shift z φ δ v) ∧ AV.okG g N v = true
  | [], _, t, v, h => by simp at h
  | (u, x) :: l, hh, t, v, h => by
    simp only [tmpsShift, Bool.and_eq_true, FE.trGet_eq] at hh
    rcases List.mem_cons.1 h with h | h
    · simp only [Prod.mk.injEq] at h
      obtain ⟨rfl, rfl⟩ := h
      cases hg : T.get t with
      | none => rw [hg] at hh; simp at hh
      | some o =>
        rw [hg] at hh
        simp only [Bool.and_eq_true] at hh
        exact ⟨by rw [AV.same_eq _ _ hh.1.1], hh.1.2⟩
    · exact tmpsShift_mem l hh.2 t v h

theorem heapShift_mem {z : Bool} {φ : Nat → Nat} {δ g N : Nat} {m : Tr AObj} : ∀ (l : List (Nat × Lay)), heapShift z φ δ g N m l = true → ∀ i y, (i, y) ∈ l → i < N ∧ i ≠ g ∧ ∃ o, m.get (φ i) = some o ∧ y.begins z φ δ g N o = true
  | [], _, i, y, h => by simp at h
  | (j, z) :: l, hh, i, y, h => by
    simp only [heapShift, Bool.and_eq_true, FE.trGet_eq, Bool.not_eq_true', Nat.blt_eq] at hh
    rcases List.mem_cons.1 h with h | h
    · simp only [Prod.mk.injEq] at h
      obtain ⟨rfl, rfl⟩ := h
      refine ⟨hh.1.1.1, fun c => by have := hh.1.1.2; rw [c] at this; simp at this, ?_⟩
      cases hg : m.get (φ i) with
      | none => rw [hg] at hh; simp at hh
      | some o => rw [hg] at hh; exact ⟨o, rfl, hh.1.2⟩
    · exact heapShift_mem l hh.2 i y h

theorem Lay.begins_live {z : Bool} {φ : Nat → Nat} {δ g N : Nat} {y : Lay} {o : AObj} (h : y.begins z φ δ g N o = true) : o.live := by
  cases y <;> cases o <;> simp_all [Lay.begins, AObj.live]

/-- the names as they are bound behind a round -/
def Ren.moved (ρ : Ren) (lo g : Nat) (σ : List Nat) (δ N : Nat) : Ren := fun i => if i < N then (if i = g then (ρ g).map fun e => { e with sz := e.sz + δ } else ρ (nameOf lo σ i)) else none

/-- WHAT IS TOLD HOLDS, NAMES BOUND ANEW. -/
theorem Told.weakenS [Base] {P : Program} {d : Told} {s : St} {z : Bool} {lo g δ : Nat} {σ : List Nat} (hd : d.holdsS z lo g σ δ s = true) {ρ0 ρ : Ren} {H0 : Heap} {w0 w : World} {a : Act} (hr : Rel P ρ s.H w) (hf : FRel P ρ s a) (hs : Fr ρ0 H0 w0 ρ s.H w)
    (hB : ∀ e, ρ g = some e → e.sz + δ ≤ 2305843009213693952) (hz : z = true → ∃ e, ρ g = some e ∧ e.sz = 0) : Rel P (ρ.moved lo g σ δ d.next) d.st.H w ∧ FRel P (ρ.moved lo g σ δ d.next) d.st a ∧ Fr ρ0 H0 w0 (ρ.moved lo g σ δ d.next) d.st.H w := by
  simp only [Told.holdsS, Bool.and_eq_true, Bool.not_eq_true', Nat.blt_eq] at hd
  obtain ⟨⟨⟨⟨⟨⟨⟨h1, h2⟩, h3⟩, h4⟩, h5⟩, h6⟩, h7⟩, h8⟩ := hd
  have h1 := Nat.eq_of_beq_eq_true h1
  have h3 := Nat.eq_of_beq_eq_true h3
  rw [FE.len_eq] at h3
  generalize hφ : nameOf lo σ = φ at *
  have hinj : ∀ i j, i < d.next → j < d.next → φ i = φ j → i = j := by
    have hhi : ∀ k, k < σ.length → ¬ (σ.getD k 0 < lo) := by
      intro k hk hc
      rw [List.any_eq_false] at h6
      have := h6 (σ.getD k 0) (by rw [List.getD_eq_getElem?_getD, List.getElem?_eq_getElem hk]; simp)
      exact this (by simpa using hc)
    intro i j hi hj he
    rw [← hφ] at he
    unfold nameOf at he
    by_cases ci : i < lo <;> by_cases cj : j < lo
    · simpa [ci, cj] using he
    · have : ¬ σ.getD (j - lo) 0 < lo := hhi _ (by omega)
      simp only [Nat.blt_eq, ci, cj, if_true, if_false] at he
      omega
    · have : ¬ σ.getD (i - lo) 0 < lo := hhi _ (by omega)
      simp only [Nat.blt_eq, ci, cj, if_true, if_false] at he
      omega
    · simp only [Nat.blt_eq, ci, cj, if_false] at he
      have := distinct_spec σ h5 (i - lo) (j - lo) (by omega) (by omega) he
      omega
  have hm : ∀ i e, ρ.moved lo g σ δ d.next i = some e → i < d.next ∧ ((i = g ∧ ∃ e', ρ g = some e' ∧ e = { e' with sz := e'.sz + δ }) ∨ (i ≠ g ∧ ρ (φ i) = some e)) := by
    intro i e h
    unfold Ren.moved at h
    rw [hφ] at h
    by_cases hi : i < d.next
    · rw [if_pos hi] at h
      by_cases hg : i = g
      · rw [if_pos hg] at h
        simp only [Option.map_eq_some_iff] at h
        obtain ⟨e', he', rfl⟩ := h
        exact ⟨hi, .inl ⟨hg, e', he', rfl⟩⟩
      · rw [if_neg hg] at h; exact ⟨hi, .inr ⟨hg, h⟩⟩
    · rw [if_neg hi] at h; cases h
  have hto : ∀ i e, i < d.next → i ≠ g → ρ (φ i) = some e → ρ.moved lo g σ δ d.next i = some e := by
    intro i e hi hg he
    unfold Ren.moved
    rw [if_pos hi, if_neg hg, hφ]; exact he
  have hgo : ∀ e, ρ g = some e → ρ.moved lo g σ δ d.next g = some { e with sz := e.sz + δ } ∧ e.sz + δ ≤ 2305843009213693952 := by
    intro e he
    refine ⟨?_, hB e he⟩
    unfold Ren.moved
    rw [if_pos (by omega), if_pos rfl, he]; rfl
  have key : ∀ i o, d.st.H.get i = some o → ∃ (y : Lay) (o' : AObj), o = y.obj ∧ i < d.next ∧ i ≠ g ∧ s.H.get (φ i) = some o' ∧ y.begins z φ δ g d.next o' = true := by
    intro i o h
    obtain ⟨y, hy, rfl⟩ := mkHeap_get d.O i o h
    obtain ⟨k1, k2, o', k3, k4⟩ := heapShift_mem d.O h8 i y hy
    exact ⟨y, o', rfl, k1, k2, k3, k4⟩
  refine ⟨⟨?_, ?_, ?_, fun i e he => (hm i e he).1, fun b o hk => ⟨(hr.kept b o hk).1, fun i q e hi _ he => ?_⟩⟩, ⟨?_, ?_, ?_⟩, ⟨hs.size, hs.frame, ?_, hs.os, hs.tape, hs.output⟩⟩
  · intro i o hi _
    obtain ⟨y, o', rfl, k1, k2, k3, k4⟩ := key i o hi
    obtain ⟨e, he, ho⟩ := hr.obj _ o' k3 (Lay.begins_live k4)
    exact ⟨e, hto i e k1 k2 he, Lay.begins_orel hto hgo hz k4 ho⟩
  · intro i j o o' e e' hi _ hj _ he he' hb
    obtain ⟨y, q, rfl, k1, k2, k3, k4⟩ := key i o hi
    obtain ⟨y', q', rfl, k1', k2', k3', k4'⟩ := key j o' hj
    rcases (hm i e he).2 with ⟨c, _⟩ | ⟨_, he⟩
    · exact absurd c k2
    rcases (hm j e' he').2 with ⟨c, _⟩ | ⟨_, he'⟩
    · exact absurd c k2'
    exact hinj i j k1 k1' (hr.inj _ _ q q' e e' k3 (Lay.begins_live k4) k3' (Lay.begins_live k4') he he' hb)
  · intro i e he
    rcases (hm i e he).2 with ⟨_, e', he', rfl⟩ | ⟨_, he⟩
    · exact hr.rng _ e' he'
    · exact hr.rng _ e he
  · obtain ⟨y, o', rfl, k1, k2, k3, k4⟩ := key i q hi
    rcases (hm i e he).2 with ⟨c, _⟩ | ⟨_, he⟩
    · exact absurd c k2
    · exact (hr.kept b o hk).2 _ o' e k3 (Lay.begins_live k4) he
  · intro t
    rcases mkTmps_get (n := d.n) d.T t with ⟨v, hv, hg⟩ | hg
    · obtain ⟨k5, k6⟩ := tmpsShift_mem d.T h7 t v hv
      have e1 : d.st.tmp t = v := by show ((mkTmps d.n d.T).get t).getD .undef = v; rw [hg]; rfl
      have e2 : s.tmp t = AV.shift z φ δ v := by unfold St.tmp; rw [k5]; rfl
      rw [e1]
      have := hf.tmps t
      rw [e2] at this
      exact VRel.shift hto hgo hz _ _ k6 this
    · have e1 : d.st.tmp t = ((if t < d.n then some AV.top else none).getD .undef) := by show ((mkTmps d.n d.T).get t).getD .undef = _; rw [hg]
      rw [e1]
      by_cases hlt : t < d.n
      · rw [if_pos hlt]; simp [VRel]
      · rw [if_neg hlt]
        have hz : a.tmps.getD t undef = undef := by
          have := hf.n
          rw [Array.getD_eq_getD_getElem?, Array.getElem?_eq_none (by omega)]; rfl
        rw [hz]; exact undef_rel
  · show d.n = _; rw [← h1]; exact hf.n
  · have hds : s.ds = [] := by simpa using h2
    have := hf.ds
    rw [hds] at this
    cases hx : a.defers with
    | nil => simp [Told.st, DefsOk]
    | cons _ _ => rw [hx] at this; simp [DefsOk] at this
  · intro i o e hi hl he hb
    obtain ⟨y, o', rfl, k1, k2, k3, k4⟩ := key i o hi
    rcases (hm i e he).2 with ⟨c, _⟩ | ⟨_, he⟩
    · exact absurd c k2
    · exact hs.live _ o' e k3 (Lay.begins_live k4) he hb
end AE

/- Rounds: pieces that bind names anew, regions in two parts, temporaries that stay open. Conditions: none. -/
namespace AE
open Go Go.RowKit

/-- the counter's name, moved up -/
def Ren.bump (K : Ren) (g δ : Nat) : Ren := fun i => if i = g then (K g).map fun e => { e with sz := e.sz + δ } else K i

section
variable {P : Program} {K K' K1 K2 : Ren}

/-- as J, from names K to names K' -/
def JM [Base] (P : Program) (K K' : Ren) (c : Code) (s : St) (x : AExit) (s' : St) : Prop :=
  ∀ ρ a w, K.le ρ → Rel P ρ s.H w → FRel P ρ s a → c.wp P (Ends P K' ρ s.H w x s') a w
def JSM [Base] (P : Program) (K K' : Ren) (l : List Code) (s : St) (x : AExit) (s' : St) : Prop :=
  ∀ ρ a w, K.le ρ → Rel P ρ s.H w → FRel P ρ s a → wpL P l (Ends P K' ρ s.H w x s') a w

theorem JS.m [Base] {l : List Code} {s s' : St} {x : AExit} (h : JS P K l s x s') : JSM P K K l s x s' := h
theorem J.m [Base] {c : Code} {s s' : St} {x : AExit} (h : J P K c s x s') : JM P K K c s x s' := h

theorem JSM.append [Base] {l1 l2 : List Code} {s s1 s' : St} {x : AExit} (h : JSM P K K1 l1 s .normal s1) (k : JSM P K1 K2 l2 s1 x s') : JSM P K K2 (l1 ++ l2) s x s' := by
  intro ρ a w hk hr hf
  refine wpL_append l2 l1 a w (wpL_mono ?_ l1 a w (h ρ a w hk hr hf))
  rintro e a' w' ⟨rfl, ρ', hr', hf', hst, hk'⟩
  simp only [AExit.toExit, Exit.then]
  exact wpL_mono (fun e a w k => Ends.trans hst k) l2 a' w' (k ρ' a' w' hk' hr' hf')

theorem JSM.append_out [Base] {l1 l2 : List Code} {s s' : St} {x : AExit} (h : JSM P K K1 l1 s x s') (hx : x ≠ .normal) : JSM P K K1 (l1 ++ l2) s x s' := by
  intro ρ a w hk hr hf
  refine wpL_append l2 l1 a w (wpL_mono ?_ l1 a w (h ρ a w hk hr hf))
  rintro e a' w' ⟨rfl, hz⟩
  cases x with
  | normal => exact absurd rfl hx
  | exit id => exact ⟨rfl, hz⟩
  | ret => exact ⟨rfl, hz⟩

theorem JM.flat [Base] {c : Code} {s s' : St} {x : AExit} (h : JSM P K K' (flat c) s x s') : JM P K K' c s x s' := fun ρ a w hk hr hf => wp_flat (h ρ a w hk hr hf)
theorem JSM.one [Base] {c : Code} {s s' : St} {x : AExit} (h : JM P K K' c s x s') : JSM P K K' [c] s x s' := fun ρ a w hk hr hf => wp_mono (h ρ a w hk hr hf) fun e a w k => by cases e <;> exact k

theorem JM.block [Base] {id : Nat} {c : Code} {s s' : St} {x : AExit} (h : JM P K K' c s x s') : JM P K K' (.block id c) s (x.ofBlock id) s' := by
  intro ρ a w hk hr hf
  refine wp_block (wp_mono (h ρ a w hk hr hf) ?_)
  rintro e a' w' ⟨rfl, hz⟩
  cases x with
  | normal => exact ⟨rfl, hz⟩
  | exit id' =>
    simp only [AExit.toExit, Exit.inBlock, AExit.ofBlock]
    split
    · exact ⟨rfl, hz⟩
    · exact ⟨rfl, hz⟩
  | ret => exact ⟨rfl, hz⟩

/-- a loop that has begun, from names K, to whatever names -/
def JLM [Base] (P : Program) (K : Ren) (b : Code) (s : St) (x : AExit) (s' : St) (K' : Ren) : Prop :=
  ∀ ρ a w, K.le ρ → Rel P ρ s.H w → FRel P ρ s a → LoopWp P b (Ends P K' ρ s.H w x s') a w

theorem JLM.loop [Base] {b : Code} {s s' : St} {x : AExit} (h : JLM P K b s x s' K') : JM P K K' (.loop b) s x s' := fun ρ a w hk hr hf => (h ρ a w hk hr hf).start

theorem JLM.round [Base] {b : Code} {s s1 s' : St} {x : AExit} (h : JM P K K1 b s .normal s1) (k : JLM P K1 b s1 x s' K') : JLM P K b s x s' K' := by
  intro ρ a w hk hr hf
  refine LoopWp.round (wp_mono (h ρ a w hk hr hf) ?_)
  rintro e a' w' ⟨rfl, ρ', hr', hf', hst, hk'⟩
  simp only [AExit.toExit, Exit.then]
  exact (k ρ' a' w' hk' hr' hf').mono (fun e a w k => Ends.trans hst k)

theorem JLM.out [Base] {b : Code} {s s' : St} {x : AExit} (h : JM P K K' b s x s') (hx : x ≠ .normal) : JLM P K b s x s' K' := by
  intro ρ a w hk hr hf
  refine LoopWp.round (wp_mono (h ρ a w hk hr hf) ?_)
  rintro e a' w' ⟨rfl, hz⟩
  cases x with
  | normal => exact absurd rfl hx
  | exit id => exact ⟨rfl, hz⟩
  | ret => exact ⟨rfl, hz⟩

/-! ### what the kernel is asked -/

noncomputable def getsL (T : Tr AV) : List Nat → Option (List AV)
  | [] => some []
  | t :: ts => FE.obind (FE.trGet T t) fun v => FE.obind (getsL T ts) fun vs => some (v :: vs)

theorem getsL_mem {T : Tr AV} : ∀ (ts : List Nat) (ys : List AV), getsL T ts = some ys → ∀ t v, (t, v) ∈ ts.zip ys → T.get t = some v
  | [], ys, h, t, v, hm => by simp at hm
  | u :: ts, ys, h, t, v, hm => by
    simp only [getsL, FE.obind_eq, FE.trGet_eq, Option.bind_eq_some_iff, Option.some.injEq] at h
    obtain ⟨x, hx, xs, hxs, rfl⟩ := h
    simp only [List.zip_cons_cons, List.mem_cons, Prod.mk.injEq] at hm
    rcases hm with ⟨rfl, rfl⟩ | hm
    · exact hx
    · exact getsL_mem ts xs hxs t v hm

/-- the state of which the temporaries ts alone are told -/
noncomputable def cut (n : Nat) (l : List (Nat × AV)) (H : Heap) : St := { T := mkTmps n l, n := n, ds := [], H := H }

theorem FRel.cut [Base] {ρ : Ren} {s : St} {a : Act} {n : Nat} {ts : List Nat} {ys : List AV} (hf : FRel P ρ s a) (hg : getsL s.T ts = some ys) (hn : s.n = n) (hds : s.ds = []) : FRel P ρ (AE.cut n (ts.zip ys) s.H) a := by
  refine ⟨fun t => ?_, by show n = _; rw [← hn]; exact hf.n, ?_⟩
  · rcases mkTmps_get (n := n) (ts.zip ys) t with ⟨v, hv, h⟩ | h
    · have h5 := getsL_mem ts ys hg t v hv
      have e1 : (AE.cut n (ts.zip ys) s.H).tmp t = v := by show ((mkTmps n (ts.zip ys)).get t).getD .undef = v; rw [h]; rfl
      have e2 : s.tmp t = v := by unfold St.tmp; rw [h5]; rfl
      have := hf.tmps t
      rw [e2] at this
      rw [e1]; exact this
    · have e1 : (AE.cut n (ts.zip ys) s.H).tmp t = ((if t < n then some AV.top else none).getD .undef) := by show ((mkTmps n (ts.zip ys)).get t).getD .undef = _; rw [h]
      rw [e1]
      by_cases hlt : t < n
      · rw [if_pos hlt]; simp [VRel]
      · rw [if_neg hlt]
        have hz : a.tmps.getD t undef = undef := by
          have := hf.n
          rw [Array.getD_eq_getD_getElem?, Array.getElem?_eq_none (by omega)]; rfl
        rw [hz]; exact undef_rel
  · have := hf.ds
    rw [hds] at this
    cases hx : a.defers with
    | nil => simp [AE.cut, DefsOk]
    | cons _ _ => rw [hx] at this; simp [DefsOk] at this

/-- a piece may start from the temporaries that count -/
theorem JSM.fromT [Base] {l : List Code} {s s' : St} {x : AExit} {n : Nat} {ts : List Nat} {ys : List AV} (hg : getsL s.T ts = some ys) (hn : s.n = n) (hds : s.ds = []) (h : JSM P K K' l (AE.cut n (ts.zip ys) s.H) x s') : JSM P K K' l s x s' :=
  fun ρ a w hk hr hf => h ρ a w hk hr (hf.cut hg hn hds)

/-- the same, where a piece ends -/
theorem JSM.toT [Base] {l : List Code} {s s' : St} {x : AExit} {n : Nat} {ts : List Nat} {ys : List AV} (h : JSM P K K' l s x s') (hg : getsL s'.T ts = some ys) (hn : s'.n = n) (hds : s'.ds = []) : JSM P K K' l s x (AE.cut n (ts.zip ys) s'.H) := by
  intro ρ a w hk hr hf
  refine wpL_mono ?_ l a w (h ρ a w hk hr hf)
  rintro e a' w' ⟨rfl, ρ', hr', hf', hst, hk'⟩
  exact ⟨rfl, ρ', hr', hf'.cut hg hn hds, hst, hk'⟩

section
variable {X : AE.Spec}

/-- how a run ends: what is told holds, some temporaries stay open -/
noncomputable def endsO (r : FE.R) (x : AExit) (d : Told) (ts : List Nat) : Option (List AV) :=
  FE.obind r fun p => FE.bcase (decide (p.1 = x) && d.holds p.2) (getsL p.2.T ts) none

def Told.withs (d : Told) (l : List (Nat × AV)) : Told := { d with T := l ++ d.T }

theorem tmpsHold_append {N : Nat} {T : Tr AV} : ∀ (l1 l2 : List (Nat × AV)), (∀ t v, (t, v) ∈ l1 → T.get t = some v ∧ AV.under N v = true) → tmpsHold N T l2 = true → tmpsHold N T (l1 ++ l2) = true
  | [], _, _, h => h
  | (t, v) :: l1, l2, h1, h2 => by
    obtain ⟨h3, h4⟩ := h1 t v (by simp)
    simp only [List.cons_append, tmpsHold, FE.trGet_eq, h3, AV.same_refl, h4, Bool.and_self, Bool.true_and]
    exact tmpsHold_append l1 l2 (fun t v hm => h1 t v (by simp [hm])) h2

theorem AV.unders_zip {N : Nat} : ∀ (ts : List Nat) (ys : List AV), AV.unders N ys = true → ∀ t v, (t, v) ∈ ts.zip ys → AV.under N v = true
  | [], ys, _, t, v, h => by simp at h
  | _ :: _, [], _, t, v, h => by simp at h
  | u :: ts, y :: ys, hu, t, v, h => by
    simp only [AV.unders, Bool.and_eq_true] at hu
    simp only [List.zip_cons_cons, List.mem_cons, Prod.mk.injEq] at h
    rcases h with ⟨rfl, rfl⟩ | h
    · exact hu.1
    · exact AV.unders_zip ts ys hu.2 t v h

theorem JSM.of_endsO [Base] (hX : SpecOk P X) (hP : ProgOk P (drawOk P)) (hm : P.follows .mixedOrders = true) (n : Nat) {l : List Code} (hc : l.all (Draws (drawOk P)) = true) {s : St} {x : AExit} {d : Told} {ts : List Nat} {ys : List AV} (hK : K.under d.next)
    (h : endsO (codeL P (FE.both P X n).call (FE.both P X n).loop l s) x d ts = some ys) (hy : AV.unders d.next ys = true) : JSM P K K l s x (d.withs (ts.zip ys)).st := by
  unfold endsO at h
  rw [FE.obind_eq, Option.bind_eq_some_iff] at h
  obtain ⟨⟨x', s'⟩, hr, h⟩ := h
  rw [FE.bcase_eq] at h
  split at h
  · rename_i hd
    simp only [Bool.and_eq_true, decide_eq_true_eq] at hd
    obtain ⟨rfl, hd⟩ := hd
    refine (JS.run hX hP hm n l hc s s' x' hr).weaken (d := d.withs (ts.zip ys)) hK ?_
    simp only [Told.holds, Bool.and_eq_true] at hd ⊢
    obtain ⟨⟨⟨h1, h2⟩, h3⟩, h4⟩ := hd
    exact ⟨⟨⟨h1, h2⟩, tmpsHold_append _ _ (fun t v hm => ⟨getsL_mem ts ys h t v hm, AV.unders_zip ts ys hy t v hm⟩) h3⟩, h4⟩
  · cases h

/-- how a run ends whose names are bound anew; open temporaries name nothing -/
noncomputable def endsS (r : FE.R) (x : AExit) (d : Told) (z : Bool) (lo g : Nat) (σ : List Nat) (δ : Nat) (ts : List Nat) : Option (List AV) :=
  FE.obind r fun p => FE.bcase (decide (p.1 = x) && d.holdsS z lo g σ δ p.2) (getsL p.2.T ts) none

/-- values that a move leaves as they are -/
def AV.still (lo g : Nat) : AV → Bool
  | .int _ _ => true
  | .slice none _ _ _ => true
  | .slice (some (i, _)) _ _ _ => Nat.blt i lo && !(Nat.beq i g)
  | _ => false

theorem AV.still_shift {z : Bool} {lo g N δ : Nat} {σ : List Nat} (hN : lo ≤ N) (x : AV) (h : AV.still lo g x = true) : AV.shift z (nameOf lo σ) δ x = x ∧ AV.okG g N x = true := by
  cases x with
  | int k n => exact ⟨rfl, rfl⟩
  | slice a l c e =>
    rcases a with _ | ⟨i, o⟩
    · exact ⟨rfl, rfl⟩
    · simp only [AV.still, Bool.and_eq_true, Nat.blt_eq] at h
      refine ⟨?_, ?_⟩
      · simp only [AV.shift, nameOf, Nat.blt_eq, h.1, if_true]
      · simp only [AV.okG, Bool.and_eq_true, Nat.blt_eq]
        exact ⟨by omega, h.2⟩
  | _ => simp [AV.still] at h

theorem tmpsShift_append {z : Bool} {φ : Nat → Nat} {δ g N : Nat} {T : Tr AV} : ∀ (l1 l2 : List (Nat × AV)), (∀ t v, (t, v) ∈ l1 → T.get t = some (AV.shift z φ δ v) ∧ AV.okG g N v = true) → tmpsShift z φ δ g N T l2 = true → tmpsShift z φ δ g N T (l1 ++ l2) = true
  | [], _, _, h => h
  | (t, v) :: l1, l2, h1, h2 => by
    obtain ⟨h3, h4⟩ := h1 t v (by simp)
    simp only [List.cons_append, tmpsShift, FE.trGet_eq, h3, AV.same_refl, h4, Bool.and_self, Bool.true_and]
    exact tmpsShift_append l1 l2 (fun t v hm => h1 t v (by simp [hm])) h2

theorem all_zip {p : AV → Bool} : ∀ (ts : List Nat) (ys : List AV), ys.all p = true → ∀ t v, (t, v) ∈ ts.zip ys → p v = true
  | [], ys, _, t, v, h => by simp at h
  | _ :: _, [], _, t, v, h => by simp at h
  | u :: ts, y :: ys, hu, t, v, h => by
    simp only [List.all_cons, Bool.and_eq_true] at hu
    simp only [List.zip_cons_cons, List.mem_cons, Prod.mk.injEq] at h
    rcases h with ⟨rfl, rfl⟩ | h
    · exact hu.1
    · exact all_zip ts ys hu.2 t v h

theorem JSM.of_endsS [Base] (hX : SpecOk P X) (hP : ProgOk P (drawOk P)) (hm : P.follows .mixedOrders = true) (n : Nat) {l : List Code} (hc : l.all (Draws (drawOk P)) = true) {s : St} {x : AExit} {d : Told} {z : Bool} {lo g δ : Nat} {σ : List Nat} {ts : List Nat} {ys : List AV}
    (hK : K.under lo) {e0 : Ent} (he : K g = some e0) (hB : e0.sz + δ ≤ 2305843009213693952) (hz : z = true → e0.sz = 0)
    (h : endsS (codeL P (FE.both P X n).call (FE.both P X n).loop l s) x d z lo g σ δ ts = some ys) (hy : ys.all (AV.still lo g) = true) : JSM P K (K.bump g δ) l s x (d.withs (ts.zip ys)).st := by
  unfold endsS at h
  rw [FE.obind_eq, Option.bind_eq_some_iff] at h
  obtain ⟨⟨x', s'⟩, hr, h⟩ := h
  rw [FE.bcase_eq] at h
  split at h
  · rename_i hd
    simp only [Bool.and_eq_true, decide_eq_true_eq] at hd
    obtain ⟨rfl, hd⟩ := hd
    have hlo : lo ≤ d.next ∧ g < lo := by
      have hd' := hd
      simp only [Told.holdsS, Bool.and_eq_true, Nat.blt_eq] at hd'
      obtain ⟨⟨⟨⟨⟨⟨_, h3⟩, h4⟩, _⟩, _⟩, _⟩, _⟩ := hd'
      have := Nat.eq_of_beq_eq_true h3
      exact ⟨by omega, h4⟩
    have hd2 : (d.withs (ts.zip ys)).holdsS z lo g σ δ s' = true := by
      simp only [Told.holdsS, Bool.and_eq_true] at hd ⊢
      obtain ⟨⟨h1, h2⟩, h3⟩ := hd
      refine ⟨⟨h1, tmpsShift_append _ _ (fun t v hm => ?_) h2⟩, h3⟩
      obtain ⟨k1, k2⟩ := AV.still_shift (z := z) (N := d.next) (δ := δ) (σ := σ) hlo.1 v (all_zip ts ys hy t v hm)
      exact ⟨by rw [k1]; exact getsL_mem ts ys h t v hm, k2⟩
    intro ρ a w hk hr0 hf
    refine wpL_mono ?_ l a w (JS.run hX hP hm n l hc s s' x' hr ρ a w hk hr0 hf)
    rintro e a' w' ⟨rfl, ρ', hr', hf', hst, hk'⟩
    have hg := hk' g e0 he
    obtain ⟨g1, g2, g3⟩ := Told.weakenS hd2 hr' hf' hst (fun e h => by rw [hg] at h; simp only [Option.some.injEq] at h; subst h; exact hB) (fun h => ⟨e0, hg, hz h⟩)
    refine ⟨rfl, _, g1, g2, g3, ?_⟩
    intro i e hi
    unfold Ren.bump at hi
    by_cases c : i = g
    · rw [if_pos c] at hi
      show Ren.moved ρ' lo g σ δ d.next i = some e
      unfold Ren.moved
      rw [if_pos (by omega), if_pos c, hg]
      rw [he] at hi
      exact hi
    · rw [if_neg c] at hi
      have hil := hK i e hi
      show Ren.moved ρ' lo g σ δ d.next i = some e
      unfold Ren.moved nameOf
      rw [if_pos (by omega), if_neg c, if_pos (by simpa using hil)]
      exact hk' i e hi
  · cases h

/-- a region in two parts, and what follows -/
theorem codeL_region {callF : CallF} {loopF : Code → St → FE.R} {id : Nat} {ops : Array Oper} {l : List Code} {k : Nat} {s s1 : St} (h1 : FE.opsL P callF ops (ops.toList.take k) s = some s1) :
    codeL P callF loopF (.region id ops false :: l) s = FE.obind (FE.opsL P callF ops (ops.toList.drop k) s1) (codeL P callF loopF l) := by
  have h3 : FE.opsL P callF ops ops.toList s = FE.opsL P callF ops (ops.toList.drop k) s1 := by
    have h4 := opsL_append (callF := callF) (P := P) ops (ops.toList.take k) (ops.toList.drop k) s
    rw [List.take_append_drop, h1] at h4
    exact h4
  have h : FE.code P callF loopF (.region id ops false) s = FE.obind (FE.opsL P callF ops ops.toList s) fun s => some (AExit.normal, s) := rfl
  show FE.obind (FE.code P callF loopF (.region id ops false) s) (FE.seqK (codeL P callF loopF l)) = _
  rw [h, h3]
  cases FE.opsL P callF ops (ops.toList.drop k) s1 with
  | none => rfl
  | some s2 => rfl
end
end
end AE

/- Small pieces told by equations; operations one by one. Conditions: none. -/
namespace AE
open Go Go.RowKit

section
variable {P : Program} {K K' : Ren}

/-- how a run ends, as an equation: the temporaries that count, and the heap -/
noncomputable def outH (r : FE.R) (n : Nat) (ts : List Nat) : Option (AExit × List AV × Heap) :=
  FE.obind r fun p => FE.bcase (Nat.beq p.2.n n && p.2.ds.isEmpty) (FE.obind (getsL p.2.T ts) fun ys => some (p.1, ys, p.2.H)) none

theorem JSM.of_outH [Base] {X : AE.Spec} (hX : SpecOk P X) (hP : ProgOk P (drawOk P)) (hm : P.follows .mixedOrders = true) (n : Nat) {l : List Code} (hc : l.all (Draws (drawOk P)) = true) {s : St} {x : AExit} {m : Nat} {ts : List Nat} {ys : List AV} {H' : Heap}
    (h : outH (codeL P (FE.both P X n).call (FE.both P X n).loop l s) m ts = some (x, ys, H')) : JSM P K K l s x (AE.cut m (ts.zip ys) H') := by
  unfold outH at h
  rw [FE.obind_eq, Option.bind_eq_some_iff] at h
  obtain ⟨⟨x', s'⟩, hr, h⟩ := h
  rw [FE.bcase_eq] at h
  split at h
  · rename_i hd
    simp only [Bool.and_eq_true] at hd
    rw [FE.obind_eq, Option.bind_eq_some_iff] at h
    obtain ⟨ys', hg, h⟩ := h
    simp only [Option.some.injEq, Prod.mk.injEq] at h
    obtain ⟨rfl, rfl, rfl⟩ := h
    exact JSM.toT (JS.run hX hP hm n l hc s s' x' hr) hg (Nat.eq_of_beq_eq_true hd.1) (by simpa using hd.2)
  · cases h

/-- one operation of a region, in the order of the text, as the evaluator runs it -/
theorem opStep [Base] {ρ : Ren} {s s1 : St} {a : Act} {w : World} {callF : CallF} (hC : CallOk P callF) {ops : Array Oper} {Q : Exit → Act → World → Prop} {i : Nat} {l : List Nat} {o : Oper} (ho : ops[i]? = some o) (hg : o.guard = none)
    (h1 : execOper P callF s none o = some s1) (hr : Rel P ρ s.H w) (hf : FRel P ρ s a)
    (hq : ∀ ρ' a' w', Rel P ρ' s1.H w' → FRel P ρ' s1 a' → Step none ρ s.H w ρ' s1.H w' → wpOps P ops Q l a' w') : wpOps P ops Q (i :: l) a w := by
  have hwant : Region.wanted o (yielded ops a.tmps) = true := by unfold Region.wanted; rw [hg]
  simp only [wpOps, ho, hwant, if_true]
  refine .inl (execOper_wp hC hr (hf.sees _) (fun i hi => by cases hi) h1 ?_)
  intro ρ' w' v u df hs' hv hr' hst hdf
  refine hq ρ' _ w' hr' ?_ hst
  rw [hs']
  have hf1 := hf.mono hst.ext
  have hf2 : FRel P ρ' { s with H := s1.H, ds := s1.ds } { a with defers := df } := by
    refine ⟨hf1.tmps, hf1.n, ?_⟩
    rcases hdf with ⟨e1, e2⟩ | ⟨d, x, e1, e2, hd⟩
    · rw [e2]; simp only; rw [e1]; exact hf1.ds
    · rw [e2]; simp only; rw [e1]; exact ⟨hd, hf1.ds⟩
  exact hf2.put (H' := s1.H) o.dst hv

/-- one operation whose value is known at the model -/
theorem opKnown [Base] {ρ : Ren} {s : St} {a : Act} {w : World} {ops : Array Oper} {Q : Exit → Act → World → Prop} {i : Nat} {l : List Nat} {o : Oper} (ho : ops[i]? = some o) (hg : o.guard = none) {v : AV} {u : Value}
    (h1 : (execOp a.eval o).run P w = .ok (.value u) w) (hv : VRel ρ v u) (hf : FRel P ρ s a)
    (hq : ∀ a', FRel P ρ (s.set o.dst v) a' → wpOps P ops Q l a' w) : wpOps P ops Q (i :: l) a w := by
  have hwant : Region.wanted o (yielded ops a.tmps) = true := by unfold Region.wanted; rw [hg]
  simp only [wpOps, ho, hwant, if_true]
  refine .inl ?_
  unfold Oper.wp
  rw [h1, Oper.upon_value]
  exact hq _ (hf.put (H' := s.H) o.dst hv)
/-- the first operations of a region, as the evaluator runs them; the rest after -/
theorem execOps_wpK [Base] {callF : CallF} (hC : CallOk P callF) {ops : Array Oper} {Q : Exit → Act → World → Prop} (rest : List Nat) (l : List Nat) : ∀ (s : St) (a : Act) (w : World) (ρ : Ren) (os : List Oper) (s' : St), l.map (fun i => ops[i]?) = os.map some →
    execOps P callF ops os s = some s' → Rel P ρ s.H w → FRel P ρ s a → (∀ ρ' a' w', Rel P ρ' s'.H w' → FRel P ρ' s' a' → Step none ρ s.H w ρ' s'.H w' → wpOps P ops Q rest a' w') → wpOps P ops Q (l ++ rest) a w := by
  induction l with
  | nil =>
    intro s a w ρ os s' hl h hr hf hq
    cases os with
    | nil =>
      simp only [execOps, Option.some.injEq] at h; subst h
      exact hq ρ a w hr hf (Step.refl ..)
    | cons _ _ => simp at hl
  | cons i l ih =>
    intro s a w ρ os s' hl h hr hf hq
    cases os with
    | nil => simp at hl
    | cons o os =>
      simp only [List.map_cons, List.cons.injEq] at hl
      obtain ⟨ho, hl⟩ := hl
      simp only [execOps, Option.bind_eq_some_iff] at h
      obtain ⟨s1, h1, h2⟩ := h
      unfold execW at h1
      simp only [Option.bind_eq_some_iff] at h1
      obtain ⟨b, hb, h1⟩ := h1
      have hwant := wanted_run (ops := ops) (o := o) (hf.looks _) hb
      simp only [List.cons_append, wpOps, ho, hwant]
      cases b with
      | true =>
        simp only [if_true]
        refine .inl (execOper_wp hC hr (hf.sees _) (fun i hi => by cases hi) h1 ?_)
        intro ρ' w' v u df hs' hv hr' hst hdf
        refine ih s1 _ w' ρ' os s' hl h2 hr' ?_ (fun ρ'' a'' w'' hr'' hf'' hst'' => hq ρ'' a'' w'' hr'' hf'' (hst.trans hst''))
        rw [hs']
        have hf1 := hf.mono hst.ext
        have hf2 : FRel P ρ' { s with H := s1.H, ds := s1.ds } { a with defers := df } := by
          refine ⟨hf1.tmps, hf1.n, ?_⟩
          rcases hdf with ⟨e1, e2⟩ | ⟨d, x, e1, e2, hd⟩
          · rw [e2]; simp only; rw [e1]; exact hf1.ds
          · rw [e2]; simp only; rw [e1]; exact ⟨hd, hf1.ds⟩
        exact hf2.put (H' := s1.H) o.dst hv
      | false =>
        simp only [Option.some.injEq] at h1; subst h1
        simp only [Bool.false_eq_true, if_false]
        refine ih _ _ w ρ os s' hl h2 (by rw [set_H]; exact hr) (hf.put (H' := s.H) o.dst undef_rel) (fun ρ'' a'' w'' hr'' hf'' hst'' => hq ρ'' a'' w'' hr'' hf'' (by rw [set_H] at hst''; exact hst''))

theorem indexAddr_step {callF : CallF} {s : St} {o : Oper} {t e : TypeId} {x i : Operand} {id off len c : Nat} {ex : Bool} {k : IntKind} {j : Nat} (ho : o.op = .indexAddr t x i) (hx : s.eval x = some (.slice (some (id, off)) len c ex)) (hi : s.eval i = some (.int k (.ofNat j)))
    (hj : j < len) (hu : P.underlying t = some (.slice e)) (hs : sizeOf P e = some 1) : execOper P callF s none o = some (s.set o.dst (.ptr (some (id, off + j)))) := by
  have h : opLocal P s none (.indexAddr t x i) = some (.ptr (some (id, off + j)), s.H) := by
    simp only [opLocal, hx, hi, Option.bind_some, indexAddr, hu, hs]
    rw [if_pos ⟨by simp, by simpa using hj⟩]; simp
  unfold execOper
  rw [ho]
  show ((opLocal P s none (.indexAddr t x i)).bind _) = _
  rw [h]; rfl

theorem load_model [Base] {ρ : Ren} {s : St} {a : Act} {w : World} {o : Oper} {t : TypeId} {x : Operand} {id off : Nat} {e : Ent} {u : Value} (ho : o.op = .load t x) (hx : s.eval x = some (.ptr (some (id, off)))) (hf : FRel P ρ s a) (he : ρ id = some e)
    (hb : isAgg P t = some false) (hc : w.cell? ⟨e.blk, off, none⟩ = some u) : (execOp a.eval o).run P w = .ok (.value u) w := by
  have h := hf.sees [x] x (by simp) _ hx
  cases hv : a.eval x with
  | pointer q =>
    rw [hv] at h
    cases q with
    | none => simp [VRel] at h
    | some ad =>
      simp only [VRel] at h
      obtain ⟨e', he', rfl⟩ := h
      rw [he] at he'
      simp only [Option.some.injEq] at he'
      subst he'
      simp [execOp, ho, Instr.loadAt, Instr.sureAddr, hv, Go.loadVar, isAgg_run hb, hc]
  | _ => rw [hv] at h; simp [VRel] at h
end
end AE
