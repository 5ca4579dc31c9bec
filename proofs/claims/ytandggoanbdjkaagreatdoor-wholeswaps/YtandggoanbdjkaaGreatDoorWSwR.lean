/- WholeSwaps: a return value is read where it lay. Conditions: none. -/
import Derived.Test.YtandggoanbdjkaaGreatDoorWSwQ
import Derived.Test.YtandggoanbdjkaaGreatDoorWSwK
import Derived.Test.YtandggoanbdjkaaGreatDoorWSwFa
import Derived.Test.YtandggoanbdjkaaGreatDoorWSwG
namespace Sw
open Go Go.Proofs Go.RowKit AE

/-- the numbers lie where they lay -/
def Lies [Base] (e0 : Ent) (off n : Nat) (zs : Nat → Int) : Prop :=
  ∀ w : World, (∀ b o, Base.kept b = some o → w.heap[b]? = some o) → ∀ j, j < n → w.cell? ⟨e0.blk, off + j, none⟩ = some (.int .i64 (zs j))

theorem op1 : ((ops 0)[1]?).map (fun o => (o.op, o.dst, o.guard)) = some (.indexAddr 59 (.tmp 53) (.tmp 55), some 58, none) := by kernel_rfl
theorem op2 : ((ops 0)[2]?).map (fun o => (o.op, o.dst, o.guard)) = some (.load 3 (.tmp 58), some 59, none) := by kernel_rfl
theorem u59 : Tryz.prog.underlying 59 = some (.slice 3) := by kernel_rfl
theorem s3 : AE.sizeOf Tryz.prog 3 = some 1 := by kernel_rfl
theorem a3 : AE.isAgg Tryz.prog 3 = some false := by kernel_rfl
theorem size0 : (ops 0).size = 5 := by kernel_rfl

section
variable (m : Int) (y : AV) (n i k : Nat) (H : Heap) (z : Int) (x : AV)
noncomputable def s15 : St := AE.cut 126 (LT m y n i k) H
noncomputable def s15a : St := FE.set (s15 m y n i k H) (some 57) (.int .i64 (.ofNat i))
noncomputable def s15b : St := FE.set (s15a m y n i k H) (some 58) x
noncomputable def s15c : St := FE.set (s15b m y n i k H x) (some 59) (.int .i64 z)
noncomputable def s15d : St := FE.set (FE.set (s15c m y n i k H z x) (some 11) (.int .i64 (.ofNat i))) (some 12) (.int .i64 z)
theorem ops15a : FE.opsL Tryz.prog callF (ops 0) ((ops 0).toList.take 1) (s15 m y n i k H) = some (s15a m y n i k H) := by kernel_rfl
theorem ops15d : FE.opsL Tryz.prog callF (ops 0) ((ops 0).toList.drop 3) (s15c m y n i k H z x) = some (s15d m y n i k H z x) := by kernel_rfl
theorem ev53 : (s15a m y n i k H).eval (.tmp 53) = some y := by kernel_rfl
theorem ev55 : (s15a m y n i k H).eval (.tmp 55) = some (.int .i64 (.ofNat i)) := by kernel_rfl
theorem ev58 : (s15b m y n i k H x).eval (.tmp 58) = some x := by kernel_rfl
theorem gets15 : getsL (s15d m y n i k H z x).T (12 :: 11 :: tsL) = some (.int .i64 z :: .int .i64 (.ofNat i) :: ysL m y n i k) := by kernel_rfl
theorem H15a : (s15a m y n i k H).H = H := by kernel_rfl
theorem H15b : (s15b m y n i k H x).H = H := by kernel_rfl
theorem H15c : (s15c m y n i k H z x).H = H := by kernel_rfl
theorem H15d : (s15d m y n i k H z x).H = H := by kernel_rfl
theorem n15d : (s15d m y n i k H z x).n = 126 := by kernel_rfl
theorem ds15d : (s15d m y n i k H z x).ds = [] := by kernel_rfl
theorem take1 : [0].map (fun i => (ops 0)[i]?) = ((ops 0).toList.take 1).map some := by kernel_rfl
theorem drop3 : [3, 4].map (fun i => (ops 0)[i]?) = ((ops 0).toList.drop 3).map some := by kernel_rfl
end

theorem r15_runs [Base] (hX : SpecOk Tryz.prog X2) {K : Ren} {e0 : Ent} (hK : K 0 = some e0) {m : Int} {off n c i k : Nat} {zs : Nat → Int} (hz : Lies e0 off n zs) (hi : i < n) (H : Heap) :
    JSM Tryz.prog K K [c15] (AE.cut 126 (LT m (.slice (some (0, off)) n c true) n i k) H) .normal (AE.cut 126 ((12, .int .i64 (zs i)) :: (11, .int .i64 (.ofNat i)) :: LT m (.slice (some (0, off)) n c true) n i k) H) := by
  refine JSM.one ?_
  intro ρ a w hk hr hf
  have hC : CallOk Tryz.prog (callN Tryz.prog X2 20000 false) := (callN_sound hX Hn.progOk (fun _ h => drawOk_sound Hn.mixed h) 20000).1
  have hcall : callF = callN Tryz.prog X2 20000 false := by unfold callF; rw [(FE.both_eq Tryz.prog X2 20000).2.1]
  refine wp_region ?_
  rw [size0]
  show wpOps Tryz.prog (ops 0) _ ([0] ++ [1, 2, 3, 4]) a w
  have h1 := ops15a m (.slice (some (0, off)) n c true) n i k H
  rw [FE.opsL_eq, hcall] at h1
  refine execOps_wpK hC [1, 2, 3, 4] [0] (s15 m (.slice (some (0, off)) n c true) n i k H) a w ρ _ _ take1 h1 hr hf ?_
  intro ρ1 a1 w1 hr1 hf1 hst1
  obtain ⟨o1, ho1, e1⟩ := Option.map_eq_some_iff.1 op1
  simp only [Prod.mk.injEq] at e1
  obtain ⟨e1a, e1b, e1c⟩ := e1
  have h2 := indexAddr_step (callF := callN Tryz.prog X2 20000 false) e1a (ev53 m (.slice (some (0, off)) n c true) n i k H) (ev55 m (.slice (some (0, off)) n c true) n i k H) hi u59 s3
  rw [e1b] at h2
  refine opStep hC ho1 e1c h2 hr1 hf1 ?_
  intro ρ2 a2 w2 hr2 hf2 hst2
  rw [← FE.set_eq] at hr2 hf2 hst2
  have hr2 : Rel Tryz.prog ρ2 (s15b m (.slice (some (0, off)) n c true) n i k H (.ptr (some (0, off + i)))).H w2 := hr2
  have hf2 : FRel Tryz.prog ρ2 (s15b m (.slice (some (0, off)) n c true) n i k H (.ptr (some (0, off + i)))) a2 := hf2
  have hst2 : Step none ρ1 (s15a m (.slice (some (0, off)) n c true) n i k H).H w1 ρ2 (s15b m (.slice (some (0, off)) n c true) n i k H (.ptr (some (0, off + i)))).H w2 := hst2
  have hst1 : Step none ρ H w ρ1 (s15a m (.slice (some (0, off)) n c true) n i k H).H w1 := hst1
  have hst12 := hst1.trans hst2
  obtain ⟨o2, ho2, e2⟩ := Option.map_eq_some_iff.1 op2
  simp only [Prod.mk.injEq] at e2
  obtain ⟨e2a, e2b, e2c⟩ := e2
  have he : ρ2 0 = some e0 := hst12.ext 0 e0 (hk 0 e0 hK)
  have hc := hz w2 (fun b o h => (hr2.kept b o h).1) i hi
  have hl := load_model (P := Tryz.prog) (w := w2) e2a (ev58 m (.slice (some (0, off)) n c true) n i k H (.ptr (some (0, off + i)))) hf2 he a3 hc
  refine opKnown ho2 e2c hl (v := .int .i64 (zs i)) (by simp [VRel]) hf2 ?_
  intro a3 hf3
  rw [e2b, ← FE.set_eq] at hf3
  have h4 := ops15d m (.slice (some (0, off)) n c true) n i k H (zs i) (.ptr (some (0, off + i)))
  rw [FE.opsL_eq, hcall] at h4
  show wpOps Tryz.prog (ops 0) _ ([3, 4] ++ []) a3 w2
  refine execOps_wpK hC [] [3, 4] (s15c m (.slice (some (0, off)) n c true) n i k H (zs i) (.ptr (some (0, off + i)))) a3 w2 ρ2 _ _ drop3 h4 (by rw [H15c]; rw [H15b] at hr2; exact hr2) hf3 ?_
  intro ρ4 a4 w4 hr4 hf4 hst4
  have hcut := hf4.cut (gets15 m (.slice (some (0, off)) n c true) n i k H (zs i) (.ptr (some (0, off + i)))) (n15d ..) (ds15d ..)
  rw [H15d] at hcut hr4 hst4
  rw [H15c] at hst4
  rw [H15b] at hst12
  exact ⟨rfl, ρ4, hr4, hcut, (hst12.trans hst4).fr, fun j e h => hst4.ext j e (hst12.ext j e (hk j e h))⟩
end Sw
/- WholeSwaps: one round. Conditions: none. -/
namespace Sw
open Go Go.Proofs Go.RowKit AE

/-- the state between rounds -/
noncomputable def S (m : Int) (y : AV) (n : Nat) (v : Bool) (k i : Nat) : St := AE.cut 126 (LT m y n i k) (HO v k)

/-- the names that are bound throughout: 0 for the row that was handed in, 1 for the counter -/
structure Names (K : Ren) (e0 : Ent) (v : Bool) (B : Nat) : Prop where
  under : K.under 8
  row : K 0 = some e0
  count : ∃ e, K 1 = some e ∧ e.sz ≤ B ∧ (v = false → e.sz = 0)

theorem Names.bump {K : Ren} {e0 : Ent} {v v' : Bool} {B δ : Nat} (h : Names K e0 v B) (hd : δ ≤ 9) (hv : v' = true) : Names (K.bump 1 δ) e0 v' (B + 9) where
  under := by
    intro i e hi
    unfold Ren.bump at hi
    by_cases c : i = 1
    · omega
    · rw [if_neg c] at hi; exact h.under i e hi
  row := by unfold Ren.bump; rw [if_neg (by decide)]; exact h.row
  count := by
    obtain ⟨e, he, h1, _⟩ := h.count
    refine ⟨{ e with sz := e.sz + δ }, ?_, by show e.sz + δ ≤ _; omega, fun c => by rw [hv] at c; cases c⟩
    unfold Ren.bump
    rw [if_pos rfl, he]; rfl

theorem Names.more {K : Ren} {e0 : Ent} {v : Bool} {B B' : Nat} (h : Names K e0 v B) (hB : B ≤ B') : Names K e0 v B' := by
  obtain ⟨e, he, h1, h2⟩ := h.count
  exact ⟨h.under, h.row, e, he, by omega, h2⟩

theorem Names.under43 {K : Ren} {e0 : Ent} {v : Bool} {B : Nat} (h : Names K e0 v B) : K.under 43 := fun i e hi => Nat.lt_of_lt_of_le (h.under i e hi) (by decide)

theorem quotN (c : Int) (N : Nat) (hc : c = N) (h0 : 0 < N) (hN : N < 128) (m : Int) : ∃ j : Nat, j < N ∧ FE.wrap .i64 ((FE.wrap .u64 m).tmod c) = .ofNat j := by
  subst hc
  rw [FE.wrap_eq, FE.wrap_eq, IntKind.wrap_u64]
  have h1 : 0 ≤ m % 18446744073709551616 := Int.emod_nonneg _ (by decide)
  rw [Int.tmod_eq_emod_of_nonneg h1]
  have h2 : 0 ≤ m % 18446744073709551616 % (N : Int) := Int.emod_nonneg _ (by omega)
  have h3 : m % 18446744073709551616 % (N : Int) < N := Int.emod_lt_of_pos _ (by omega)
  obtain ⟨j, hj⟩ := Int.eq_ofNat_of_zero_le h2
  rw [hj] at h3 ⊢
  refine ⟨j, by omega, ?_⟩
  have : ∀ j : Nat, j < 128 → IntKind.i64.wrap (j : Int) = (j : Int) := by decide
  exact this j (by omega)

section
variable {e0 : Ent} {off n c : Nat} {zs : Nat → Int} (m : Int)

/-- what is asked of the row handed in -/
def yv (off n c : Nat) : AV := .slice (some (0, off)) n c true

theorem first_four [Base] (hX : SpecOk Tryz.prog X2) (hz : Lies e0 off n zs) {K : Ren} {v : Bool} {B : Nat} (hK : Names K e0 v B) {k i : Nat} (hi : i < n) (hi20 : i < 20) :
    ∃ q, q < 7 ∧ JSM Tryz.prog K K ([c15] ++ ([c16] ++ ([c61] ++ [c17]))) (S m (yv off n c) n v k i) .normal (AE.cut 126 ((13, .int .i64 (.ofNat q)) :: (11, .int .i64 (.ofNat i)) :: LT m (yv off n c) n i k) (HO v k)) := by
  obtain ⟨q, hq, he⟩ := quotN 7 7 rfl (by decide) (by decide) (zs i)
  refine ⟨q, hq, ?_⟩
  have h20 : Nat.ble 20 i = false := by
    cases hb : Nat.ble 20 i with
    | false => rfl
    | true => have := Nat.le_of_ble_eq_true hb; omega
  have a1 := r15_runs hX (m := m) (c := c) (k := k) hK.row hz hi (HO v k)
  have a2 := r16 m (yv off n c) n i k (HO v k) (zs i)
  rw [h20] at a2
  have a2 := JSM.of_outH (K := K) hX Hn.progOk Hn.mixed 20000 draws_16 a2
  have a3 := JSM.of_outH (K := K) hX Hn.progOk Hn.mixed 20000 draws_61 (r61_in m (yv off n c) n i k (HO v k) (zs i))
  have a4 := r17 m (yv off n c) n i k (HO v k) (zs i)
  rw [he] at a4
  have a4 := JSM.of_outH (K := K) hX Hn.progOk Hn.mixed 20000 draws_17 a4
  exact JSM.append a1 (JSM.append a2 (JSM.append a3 a4))

theorem four_out [Base] (hX : SpecOk Tryz.prog X2) (hz : Lies e0 off n zs) {K : Ren} {v : Bool} {B : Nat} (hK : Names K e0 v B) {k i : Nat} (hi : i < n) (hi20 : 20 ≤ i) (l : List Code) :
    JSM Tryz.prog K K ([c15] ++ ([c16] ++ ([c61] ++ l))) (S m (yv off n c) n v k i) (.exit 2) (S m (yv off n c) n v k i) := by
  have h20 : Nat.ble 20 i = true := Nat.ble_eq_true_of_le hi20
  have a1 := r15_runs hX (m := m) (c := c) (k := k) hK.row hz hi (HO v k)
  have a2 := r16 m (yv off n c) n i k (HO v k) (zs i)
  rw [h20] at a2
  have a2 := JSM.of_outH (K := K) hX Hn.progOk Hn.mixed 20000 draws_16 a2
  have a3 := JSM.of_outH (K := K) hX Hn.progOk Hn.mixed 20000 draws_61 (r61_out m (yv off n c) n i k (HO v k) (zs i))
  exact JSM.append a1 (JSM.append a2 (JSM.append_out a3 (by decide)))

theorem st11 (m : Int) (y : AV) (n i : Nat) (v : Bool) (k : Nat) : ((told v k).withs ([11, 1, 53, 54, 55].zip (ysO m y n i))).st = AE.cut 126 ((11, .int .i64 (.ofNat i)) :: LT m y n i k) (HO v k) := by kernel_rfl
theorem st4 (m : Int) (y : AV) (n i : Nat) (v : Bool) (k : Nat) : ((told v k).withs ([1, 53, 54, 55].zip [.int .i64 m, y, .int .i64 (.ofNat n), .int .i64 (.ofNat i)])).st = S m y n v k i := by kernel_rfl
theorem un11 (m : Int) (off n c i N : Nat) (v : Bool) (k : Nat) : AV.unders (told v k).next (ysO m (yv off n c) N i) = true := by kernel_rfl
theorem un4 (m : Int) (off n c i N : Nat) (v : Bool) (k : Nat) : AV.unders (told v k).next [.int .i64 m, yv off n c, .int .i64 (.ofNat N), .int .i64 (.ofNat i)] = true := by kernel_rfl
theorem still4 (m : Int) (off n c i N : Nat) : [AV.int .i64 m, yv off n c, .int .i64 (.ofNat N), .int .i64 (.ofNat i)].all (AV.still 8 1) = true := by kernel_rfl
theorem after_lt {k q : Nat} (hk : k < 6) (hq : q < 7) : after k q < 6 := by
  have : ∀ k, k < 6 → ∀ q, q < 7 → after k q < 6 := by decide
  exact this k hk q hq

theorem swapped [Base] (hX : SpecOk Tryz.prog X2) {K : Ren} {v : Bool} {B : Nat} (hK : Names K e0 v B) {k i q : Nat} (hk : k < 6) (hq : q < 7) :
    JSM Tryz.prog K K [cB4] (AE.cut 126 ((13, .int .i64 (.ofNat q)) :: (11, .int .i64 (.ofNat i)) :: LT m (yv off n c) n i k) (HO v k)) .normal (AE.cut 126 ((11, .int .i64 (.ofNat i)) :: LT m (yv off n c) n i (after k q)) (HO v (after k q))) := by
  have h := JSM.of_endsO (K := K) hX Hn.progOk Hn.mixed 20000 draws_B4 (d := told v (after k q)) hK.under43 (kAll m (yv off n c) n i v k q hk hq) (un11 ..)
  rw [st11] at h
  exact h

/-- Fire at the hook told -/
theorem fired [Base] (hX : SpecOk Tryz.prog X2) {K : Ren} {v : Bool} {B : Nat} (hK : Names K e0 v B) (hB : B ≤ 1000) {k i : Nat} (hk : k < 6) (hv : v = true ∨ k = 0 ∨ v = false) :
    ∃ K' v', Names K' e0 v' (B + 9) ∧ (v' = true ∨ k = 0) ∧ JSM Tryz.prog K K' (c26 :: l27) (AE.cut 126 ((11, .int .i64 (.ofNat i)) :: LT m (yv off n c) n i k) (HO v k)) .normal (S m (yv off n c) n v' k i) := by
  obtain ⟨w, hw, he⟩ := quotN 4 4 rfl (by decide) (by decide) (way26 m i)
  have h6 := r26 m (yv off n c) n i k (HO v k)
  unfold way at h6
  rw [he] at h6
  have hreg := codeL_region (callF := callF) (loopF := loopF) (id := 26) (l := l27) h6
  cases k with
  | zero =>
    refine ⟨K, v, hK.more (by omega), .inr rfl, ?_⟩
    have hf := f0All m (yv off n c) n i (.int .i64 ((Int.ofNat i).tmod 4)) (.int .i64 (way26 m i)) v w hw
    rw [← hreg] at hf
    have h := JSM.of_endsO (K := K) hX Hn.progOk Hn.mixed 20000 draws_26 (d := told v 0) hK.under43 hf (un4 ..)
    rw [st4] at h
    exact h
  | succ k =>
    obtain ⟨e1, h1, h2, h3⟩ := hK.count
    have hd : delW w ≤ 9 := by
      have : ∀ w, w < 4 → delW w ≤ 9 := by decide
      exact this w hw
    refine ⟨K.bump 1 (delW w), true, hK.bump hd rfl, .inl rfl, ?_⟩
    have hf := fAll m (yv off n c) n i (.int .i64 ((Int.ofNat i).tmod 4)) (.int .i64 (way26 m i)) v k w (by omega) hw
    rw [← hreg] at hf
    have h := JSM.of_endsS (K := K) hX Hn.progOk Hn.mixed 20000 draws_26 (d := told true (k + 1)) (z := !v) hK.under h1 (by omega) (fun c => h3 (by simpa using c)) hf (still4 ..)
    rw [st4] at h
    exact h

/-- Fire at the other hook -/
theorem quiet [Base] (hX : SpecOk Tryz.prog X2) {K : Ren} {v : Bool} {B : Nat} (hK : Names K e0 v B) {k i : Nat} (hk : k < 6) (hv : v = true ∨ k = 0) :
    JSM Tryz.prog K K (c29 :: l30) (S m (yv off n c) n v k i) .normal (S m (yv off n c) n v k i) := by
  obtain ⟨w, hw, he⟩ := quotN 4 4 rfl (by decide) (by decide) m
  have h6 := r29 m (yv off n c) n i k (HO v k)
  unfold way at h6
  rw [he] at h6
  have hreg := codeL_region (callF := callF) (loopF := loopF) (id := 29) (l := l30) h6
  cases v with
  | true =>
    have hf := gAll m (yv off n c) n i k w hk hw
    rw [← hreg] at hf
    have h := JSM.of_endsO (K := K) hX Hn.progOk Hn.mixed 20000 draws_29 (d := told true k) hK.under43 hf (un4 ..)
    rw [st4] at h
    exact h
  | false =>
    obtain rfl : k = 0 := by rcases hv with h | h <;> simp_all
    have hf := g0All m (yv off n c) n i w hw
    rw [← hreg] at hf
    have h := JSM.of_endsO (K := K) hX Hn.progOk Hn.mixed 20000 draws_29 (d := told false 0) hK.under43 hf (un4 ..)
    rw [st4] at h
    exact h

/-- ONE ROUND. -/
theorem round [Base] (hX : SpecOk Tryz.prog X2) (hz : Lies e0 off n zs) {K : Ren} {v : Bool} {B : Nat} (hK : Names K e0 v B) (hB : B ≤ 1000) {k i : Nat} (hk : k < 6) (hi : i < n) (hi20 : i < 20) :
    ∃ K' v' k', k' < 6 ∧ Names K' e0 v' (B + 9) ∧ JM Tryz.prog K K' rnd (S m (yv off n c) n v k i) .normal (S m (yv off n c) n v' k' i) := by
  obtain ⟨q, hq, h1⟩ := first_four (c := c) m hX hz hK (k := k) hi hi20
  have h2 := swapped (c := c) (off := off) (n := n) m hX hK (i := i) hk hq
  have hk' := after_lt hk hq
  obtain ⟨K', v', hK', hv', h3⟩ := fired (c := c) (off := off) (n := n) m hX hK hB (k := after k q) (i := i) hk' (by cases v <;> simp)
  have h4 := quiet (c := c) (off := off) (n := n) m hX hK' (k := after k q) (i := i) hk' hv'
  refine ⟨K', v', after k q, hk', hK', JM.flat ?_⟩
  have hr : AE.flat rnd = rd := rfl
  rw [hr, rd_eq]
  have h := JSM.append h1 (JSM.append h2 (JSM.append h3 h4))
  simp only [List.append_assoc] at h
  exact h
end
end Sw
