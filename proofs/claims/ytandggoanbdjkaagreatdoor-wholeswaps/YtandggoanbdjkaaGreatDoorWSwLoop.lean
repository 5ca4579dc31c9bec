/- WholeSwaps: the rounds together, the law's call. Conditions: none. -/
import Derived.Test.YtandggoanbdjkaaGreatDoorWSwR
import Derived.Test.YtandggoanbdjkaaGreatDoorWSwA
namespace Sw
open Go Go.Proofs Go.RowKit AE

theorem lt_true {i n : Nat} (h : i < n) : FE.lt i n = true := by
  show Nat.ble (i + 1) n = true
  exact Nat.ble_eq_true_of_le h
theorem lt_false {i n : Nat} (h : n ≤ i) : FE.lt i n = false := by
  cases hb : FE.lt i n with
  | false => rfl
  | true => have : i + 1 ≤ n := Nat.le_of_ble_eq_true hb; omega

theorem flat_loopB : AE.flat loopB = lp := rfl
theorem flat_rnd : AE.flat rnd = rd := rfl

theorem next_i {i : Nat} (h : i < 20) : FE.wrap .i64 (.ofNat (Nat.add i 1)) = .ofNat (i + 1) := by
  rw [FE.wrap_eq]
  have : ∀ i, i < 20 → IntKind.i64.wrap (.ofNat (Nat.add i 1)) = .ofNat (i + 1) := by decide
  exact this i h

section

/-- the head of a round -/
theorem head [Base] (hX : SpecOk Tryz.prog X2) {K : Ren} (m : Int) (y : AV) (n : Nat) (v : Bool) (k i : Nat) : JSM Tryz.prog K K [c14] (S m y n v k i) .normal (AE.cut 126 ((56, .bool (FE.lt i n)) :: LT m y n i k) (HO v k)) := by
  have h := JSM.of_outH (K := K) hX Hn.progOk Hn.mixed 20000 draws_14 (r14 m y n i k (HO v k))
  exact h
theorem goes_in [Base] (hX : SpecOk Tryz.prog X2) {K : Ren} (m : Int) (y : AV) (n : Nat) (v : Bool) (k i : Nat) : JSM Tryz.prog K K [c56] (AE.cut 126 ((56, .bool true) :: LT m y n i k) (HO v k)) .normal (S m y n v k i) := by
  have h := JSM.of_outH (K := K) hX Hn.progOk Hn.mixed 20000 draws_56 (r56_in m y n i k (HO v k))
  exact h
theorem goes_out [Base] (hX : SpecOk Tryz.prog X2) {K : Ren} (m : Int) (y : AV) (n : Nat) (v : Bool) (k i : Nat) : JSM Tryz.prog K K [c56] (AE.cut 126 ((56, .bool false) :: LT m y n i k) (HO v k)) (.exit 2) (S m y n v k i) := by
  have h := JSM.of_outH (K := K) hX Hn.progOk Hn.mixed 20000 draws_56 (r56_out m y n i k (HO v k))
  exact h
theorem step [Base] (hX : SpecOk Tryz.prog X2) {K : Ren} (m : Int) (y : AV) (n : Nat) (v : Bool) (k i : Nat) (hi : i < 20) : JSM Tryz.prog K K [c32] (S m y n v k i) .normal (S m y n v k (i + 1)) := by
  have h := r32 m y n i k (HO v k)
  rw [next_i hi] at h
  have h := JSM.of_outH (K := K) hX Hn.progOk Hn.mixed 20000 draws_32 h
  exact h

theorem stops [Base] (hX : SpecOk Tryz.prog X2) {K : Ren} (m : Int) (y : AV) (n : Nat) (v : Bool) (k i : Nat) (h : n ≤ i) : JM Tryz.prog K K loopB (S m y n v k i) (.exit 2) (S m y n v k i) := by
  refine JM.flat ?_
  rw [flat_loopB, lp_eq]
  have h1 := head (K := K) hX m y n v k i
  rw [lt_false h] at h1
  exact JSM.append h1 (JSM.append_out (goes_out hX m y n v k i) (by decide))

/-- ALL ROUNDS. -/
theorem rounds [Base] (hX : SpecOk Tryz.prog X2) {e0 : Ent} {off n c : Nat} {zs : Nat → Int} (m : Int) (hz : Lies e0 off n zs) : ∀ (d : Nat) {K : Ren} {v : Bool} {B k i : Nat}, Names K e0 v B → B + 9 * d ≤ 1000 → k < 6 → i ≤ 20 → 20 - i = d →
    ∃ K' v' k' i', JLM Tryz.prog K loopB (S m (yv off n c) n v k i) (.exit 2) (S m (yv off n c) n v' k' i') K' := by
  intro d
  induction d with
  | zero =>
    intro K v B k i hK hB hk hi hd
    by_cases hn : n ≤ i
    · exact ⟨K, v, k, i, JLM.out (stops hX m (yv off n c) n v k i hn) (by decide)⟩
    · refine ⟨K, v, k, i, JLM.out (JM.flat ?_) (by decide)⟩
      rw [flat_loopB, lp_eq]
      have h1 := head (K := K) hX m (yv off n c) n v k i
      rw [lt_true (by omega)] at h1
      have h2 := four_out (c := c) m hX hz hK (k := k) (i := i) (by omega) (by omega) ([c17] ++ ([cB4] ++ ((c26 :: l27) ++ (c29 :: l30))))
      rw [← rd_eq, ← flat_rnd] at h2
      have h3 := JM.block (id := 3) (JM.flat h2)
      exact JSM.append h1 (JSM.append (goes_in hX m (yv off n c) n v k i) (JSM.append_out (JSM.one h3) (by decide)))
  | succ d ih =>
    intro K v B k i hK hB hk hi hd
    by_cases hn : n ≤ i
    · exact ⟨K, v, k, i, JLM.out (stops hX m (yv off n c) n v k i hn) (by decide)⟩
    · obtain ⟨K1, v1, k1, hk1, hK1, h2⟩ := round (c := c) m hX hz hK (by omega) hk (i := i) (by omega) (by omega)
      obtain ⟨K', v', k', i', h5⟩ := ih hK1 (by omega) hk1 (i := i + 1) (by omega) (by omega)
      refine ⟨K', v', k', i', JLM.round (JM.flat ?_) h5⟩
      rw [flat_loopB, lp_eq]
      have h1 := head (K := K) hX m (yv off n c) n v k i
      rw [lt_true (by omega)] at h1
      have h3 := JM.block (id := 3) h2
      exact JSM.append h1 (JSM.append (goes_in hX m (yv off n c) n v k i) (JSM.append (JSM.one h3) (step hX m (yv off n c) n v1 k1 i (by omega))))

theorem flat_body : AE.flat body = rows := rfl

theorem rZ (m : Int) (y : AV) (n i k : Nat) (H : Heap) : outH (codeL Tryz.prog callF loopF lZ (AE.cut 126 (LT m y n i k) H)) 126 [4] = some (.ret, [.bool true], H) := by kernel_rfl
theorem stillN (m : Int) (n : Nat) (i : Nat) : [AV.int .i64 m, .slice none 0 0 true, .int .i64 (.ofNat n), .int .i64 (.ofNat i)].all (AV.still 8 1) = true := by kernel_rfl

/-- what is told at the end -/
noncomputable def sZ (H : Heap) : St := AE.cut 126 [(4, .bool true)] H

theorem tail_runs [Base] (hX : SpecOk Tryz.prog X2) {K : Ren} (m : Int) (y : AV) (n : Nat) (v : Bool) (k i : Nat) : JSM Tryz.prog K K lZ (S m y n v k i) .ret (sZ (HO v k)) := by
  have h := JSM.of_outH (K := K) hX Hn.progOk Hn.mixed 20000 draws_Z (rZ m y n i k (HO v k))
  exact h

theorem body_runs [Base] (hX : SpecOk Tryz.prog X2) {e0 : Ent} {off n c : Nat} {zs : Nat → Int} (m : Int) (hz : Lies e0 off n zs) {K : Ren} (hK : Names K e0 false 0) : ∃ K' H', JM Tryz.prog K K' body (sA m (yv off n c)) .ret (sZ H') := by
  obtain ⟨e1, h1, h2, h3⟩ := hK.count
  have hA := JSM.of_endsS (K := K) hX Hn.progOk Hn.mixed 20000 draws_A (d := told false 0) (z := false) hK.under h1 (by omega) (fun h => by cases h) (A_runs m off n c) (still4 (i := 0) ..)
  rw [show (AV.slice (some (0, off)) n c true) = yv off n c from rfl, st4] at hA
  have hK1 : Names (K.bump 1 0) e0 false 9 := by
    refine ⟨fun i e hi => ?_, ?_, ?_⟩
    · unfold Ren.bump at hi
      by_cases cc : i = 1
      · omega
      · rw [if_neg cc] at hi; exact hK.under i e hi
    · unfold Ren.bump; rw [if_neg (by decide)]; exact hK.row
    · refine ⟨{ e1 with sz := e1.sz + 0 }, ?_, by show e1.sz + 0 ≤ _; omega, fun _ => by show e1.sz + 0 = 0; omega⟩
      unfold Ren.bump
      rw [if_pos rfl, h1]; rfl
  obtain ⟨K', v', k', i', hl⟩ := rounds (c := c) hX m hz 20 hK1 (by omega) (k := 0) (i := 0) (by omega) (by omega) rfl
  refine ⟨K', HO v' k', JM.flat ?_⟩
  rw [flat_body, rows_eq]
  have h4 := JM.block (id := 2) (JLM.loop hl)
  exact JSM.append hA (JSM.append (JSM.one h4) (tail_runs hX m (yv off n c) n v' k' i'))

theorem body_nil [Base] (hX : SpecOk Tryz.prog X2) (m : Int) {K : Ren} {e0 : Ent} (hK : Names K e0 false 0) : ∃ K' H', JM Tryz.prog K K' body (sA m (.slice none 0 0 true)) .ret (sZ H') := by
  obtain ⟨e1, h1, h2, h3⟩ := hK.count
  have hA := JSM.of_endsS (K := K) hX Hn.progOk Hn.mixed 20000 draws_A (d := told false 0) (z := false) hK.under h1 (by omega) (fun h => by cases h) (A_nil m) (stillN ..)
  rw [st4] at hA
  have hl : JLM Tryz.prog (K.bump 1 0) loopB (S m (.slice none 0 0 true) 0 false 0 0) (.exit 2) (S m (.slice none 0 0 true) 0 false 0 0) (K.bump 1 0) := JLM.out (stops hX m _ 0 false 0 0 (by omega)) (by decide)
  refine ⟨K.bump 1 0, HO false 0, JM.flat ?_⟩
  rw [flat_body, rows_eq]
  have h4 := JM.block (id := 2) (JLM.loop hl)
  exact JSM.append hA (JSM.append (JSM.one h4) (tail_runs hX m (.slice none 0 0 true) 0 false 0 0))

theorem stillM (m : Int) (n : Nat) (i : Nat) : [AV.int .i64 m, .int .i64 (.ofNat n), .int .i64 (.ofNat i)].all (AV.still 8 1) = true := by kernel_rfl
theorem stM (m : Int) : ((told false 0).withs ([1, 54, 55].zip [.int .i64 m, .int .i64 (.ofNat 0), .int .i64 (.ofNat 0)])).st = AE.cut 126 [(1, .int .i64 m), (54, .int .i64 (.ofNat 0)), (55, .int .i64 (.ofNat 0)), (5, .ptr (some (8, 0))), (10, .int .i64 (nowOf 0))] (HO false 0) := by kernel_rfl
theorem getsM (m : Int) : getsL (AE.cut 126 [(1, .int .i64 m), (54, .int .i64 (.ofNat 0)), (55, .int .i64 (.ofNat 0)), (5, .ptr (some (8, 0))), (10, .int .i64 (nowOf 0))] (HO false 0)).T tsL = some (ysL m .top 0 0 0) := by kernel_rfl

theorem body_mt [Base] (hX : SpecOk Tryz.prog X2) (m : Int) {K : Ren} {e0 : Ent} (hK : Names K e0 false 0) : ∃ K' H', JM Tryz.prog K K' body (sA m .mt) .ret (sZ H') := by
  obtain ⟨e1, h1, h2, h3⟩ := hK.count
  have hA := JSM.of_endsS (K := K) hX Hn.progOk Hn.mixed 20000 draws_A (d := told false 0) (z := false) hK.under h1 (by omega) (fun h => by cases h) (A_mt m) (stillM ..)
  rw [stM] at hA
  have hA := JSM.toT hA (getsM m) rfl rfl
  have hl : JLM Tryz.prog (K.bump 1 0) loopB (S m .top 0 false 0 0) (.exit 2) (S m .top 0 false 0 0) (K.bump 1 0) := JLM.out (stops hX m _ 0 false 0 0 (by omega)) (by decide)
  refine ⟨K.bump 1 0, HO false 0, JM.flat ?_⟩
  rw [flat_body, rows_eq]
  have h4 := JM.block (id := 2) (JLM.loop hl)
  exact JSM.append hA (JSM.append (JSM.one h4) (tail_runs hX m .top 0 false 0 0))

theorem readZ (H : Heap) : readResults Tryz.prog (sZ H) (sZ H).H Tryz.f4.results.toList = some [.bool true] := by kernel_rfl

theorem body_is : Tryz.f4.body = some body := rfl
end
end Sw
/- WholeSwaps: the law's call. Conditions: none. -/
namespace Sw
open Go Go.Proofs Go.RowKit AE

theorem calls_of_JM [Base] {P : Program} {K K' : Ren} {f : FuncId} {fn : Func} {c : Code} (hf : P.funcs[f]? = some fn) (hb : fn.body = some c) {args : List AV} {us : List Value} {ρ : Ren} {H : Heap} {w : World} (hk : K.le ρ) (hr : Rel P ρ H w) (hu : VRels ρ args us)
    {s' : St} (h : JM P K K' c { T := startT args 0 .leaf, n := (if args.length ≤ fn.ntmps then fn.ntmps else args.length), ds := [], H := H } .ret s') (hds : s'.ds = [])
    {vs : List AV} (hv : readResults P s' s'.H fn.results.toList = some vs) :
    Calls P f us.toArray w fun e w' => ∃ u ρ', e = .returned u ∧ VRel ρ' (oneOf vs) u ∧ Rel P ρ' s'.H w' ∧ Fr ρ H w ρ' s'.H w' := by
  refine calls_of_wp_defers hf hb (wp_mono (h ρ _ w hk hr (FRel.start hu fn.ntmps H)) ?_)
  rintro e a' w' ⟨rfl, ρ', hr', hf', hst, _⟩
  have hfd := hf'.ds
  rw [hds] at hfd
  have hxs : a'.defers = [] := by cases hx : a'.defers with | nil => rfl | cons _ _ => rw [hx] at hfd; simp [DefsOk] at hfd
  obtain ⟨u, h3, h4⟩ := results_run hr' hf' hv
  show Leaves P fn a'.tmps _ a'.defers .returning w'
  rw [hxs]
  exact Leaves.nil ⟨u, h3, u, ρ', rfl, h4, hr', hst⟩

/-- the names at the start -/
def K0 (e0 : Ent) : Ren := fun i => if i = 0 then some e0 else if i = 1 then some { e0 with sz := 0 } else none

theorem K0_names (e0 : Ent) : Names (K0 e0) e0 false 0 := by
  refine ⟨fun i e h => ?_, rfl, ⟨{ e0 with sz := 0 }, rfl, Nat.le_refl 0, fun _ => rfl⟩⟩
  unfold K0 at h
  split at h
  · omega
  · split at h
    · omega
    · cases h

theorem K0_blk {e0 : Ent} {i : Nat} {e : Ent} (h : K0 e0 i = some e) : e.blk = e0.blk ∧ i < 8 := by
  unfold K0 at h
  split at h
  · simp only [Option.some.injEq] at h; subst h; exact ⟨rfl, by omega⟩
  · split at h
    · simp only [Option.some.injEq] at h; subst h; exact ⟨rfl, by omega⟩
    · cases h

theorem K0_rel [Base] (e0 : Ent) (w : World) (hw : ∀ b o, Base.kept b = some o → w.heap[b]? = some o) (hb : e0.blk < w.heap.size) : Rel Tryz.prog (K0 e0) ⟨.leaf, 8⟩ w :=
  ⟨fun i o h _ => by simp [Heap.get, Tr.get_leaf] at h, fun i j o o' e e' h => by simp [Heap.get, Tr.get_leaf] at h, fun i e h => by rw [(K0_blk h).1]; exact hb, fun i e h => (K0_blk h).2, fun b o hk => ⟨hw b o hk, fun i q e h => by simp [Heap.get, Tr.get_leaf] at h⟩⟩

theorem ends_true [Base] (e0 : Ent) (w : World) (hw : ∀ b o, Base.kept b = some o → w.heap[b]? = some o) (hb : e0.blk < w.heap.size) {y : AV} {v : Value} (hy : VRel (K0 e0) y v) (m : Int)
    (h : ∃ K' H', JM Tryz.prog (K0 e0) K' body (sA m y) .ret (sZ H')) : Calls Tryz.prog 4 #[v, .int .i64 m] w fun e w' => e = .returned (.bool true) ∧ Below w.heap.size w w' := by
  obtain ⟨K', H', h⟩ := h
  have hu : VRels (K0 e0) [y, .int .i64 m] [v, .int .i64 m] := by
    simp only [VRels, and_true]
    exact ⟨hy, by simp [VRel]⟩
  refine (calls_of_JM Tryz.func4 body_is (fun i e h => h) (K0_rel e0 w hw hb) hu (s' := sZ H') h rfl (readZ H')).mono ?_
  rintro e w' ⟨u, ρ', rfl, h1, _, h3⟩
  refine ⟨?_, h3.below⟩
  have := bool_rel h1
  rw [this]

/-- THE LAW's CALL: true, and nothing that lay has turned. -/
theorem law_calls (w : World) (hT : Tryz.TZ w) (m : Int) (a : Option Addr) (len cap : Nat) (hl : len ≤ cap)
    (hv : (a = none ∧ cap = 0) ∨ ∃ ad : Addr, a = some ad ∧ (len = 0 ∨ ∃ zs : List Int, zs.length = cap ∧ ∀ i, i < zs.length → w.cell? (ad.add i) = some (.int .i64 (zs.getD i 0)))) :
    Calls Tryz.prog 4 #[.slice a len cap, .int .i64 m] w fun e w' => e = .returned (.bool true) ∧ Below w.heap.size w w' := by
  letI : Base := ⟨fun b => w.heap[b]?⟩
  have hT' : ∀ w' : World, (∀ b o, Base.kept b = some o → w'.heap[b]? = some o) → Tryz.TZ w' := by
    intro w' h k hk
    have h1 := hT k hk
    have hsame : w'.heap[2]? = w.heap[2]? := by
      cases hc : w.heap[2]? with
      | none => rw [World.cell?, hc] at h1; simp at h1
      | some o => exact h 2 o hc
    rw [← h1]
    exact World.cell?_of_block hsame
  have hX := X2_ok hT'
  have h2 : 2 < w.heap.size := by
    have h1 := hT 0 (by omega)
    rcases Nat.lt_or_ge 2 w.heap.size with h | h
    · exact h
    · rw [World.cell?, Array.getElem?_eq_none (by omega)] at h1; simp at h1
  rcases hv with ⟨rfl, rfl⟩ | ⟨ad, rfl, hz⟩
  · obtain rfl : len = 0 := by omega
    exact ends_true ⟨2, 0, 0⟩ w (fun b o h => h) h2 (y := .slice none 0 0 true) (by simp [VRel]) m (body_nil hX m (K0_names _))
  · by_cases h0 : len = 0
    · subst h0
      exact ends_true ⟨2, 0, 0⟩ w (fun b o h => h) h2 (y := .mt) (by simp [VRel]) m (body_mt hX m (K0_names _))
    · rcases hz with h | ⟨zs, hzl, hz⟩
      · exact absurd h h0
      obtain ⟨b, off, spot⟩ := ad
      have hz0 := hz 0 (by omega)
      have hspot : spot = none := by simpa [Addr.add] using World.cell?_spot hz0
      subst hspot
      have hz' : ∀ j, j < len → w.cell? ⟨b, off + j, none⟩ = some (.int .i64 (zs.getD j 0)) := fun j hj => by
        rw [← Go.WideShapes.add_plain]; exact hz j (by omega)
      have hb : b < w.heap.size := by
        have h1 := hz' 0 (by omega)
        rcases Nat.lt_or_ge b w.heap.size with h | h
        · exact h
        · rw [World.cell?, Array.getElem?_eq_none (by omega)] at h1; simp at h1
      have hL : Lies ⟨b, 0, 0⟩ off len (fun j => zs.getD j 0) := by
        intro w' h j hj
        have hsame : w'.heap[b]? = w.heap[b]? := by
          cases hc : w.heap[b]? with
          | none => rw [Array.getElem?_eq_none_iff] at hc; omega
          | some o => exact h b o hc
        rw [← hz' j hj]
        exact World.cell?_of_block hsame
      exact ends_true ⟨b, 0, 0⟩ w (fun b o h => h) hb (y := yv off len cap) (by unfold yv; simp only [VRel, true_and]; exact ⟨hl, ⟨b, 0, 0⟩, rfl, rfl, Nat.le_refl _, by simp⟩) m (body_runs hX m hL (K0_names _))
end Sw
