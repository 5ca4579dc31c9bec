/- HooksNil: the piece that looks at 'more'; the law's call. Conditions: none. -/
import Derived.Test.YtandggoanbdjkaaGreatDoorHnLaw
namespace Hn
open Go Go.Proofs Go.RowKit AE

noncomputable def mid (a b c d e y : AV) : St :=
  FE.set (FE.set (FE.set (FE.set (FE.set (dA.with 1 y).st (some 109) a) (some 110) b) (some 111) c) (some 112) d) (some 113) e

theorem B1 (m : Int) : FE.opsL Tryz.prog (FE.both Tryz.prog X2 20000).call r20 (r20.toList.take 5) (dA.with 1 (.int .i64 m)).st =
    some (mid (.ptr (some (33, 0))) (.int .i64 m) (.int .u64 (FE.wrap .u64 m)) (.int .u64 ((FE.wrap .u64 m).tmod 40)) (.int .i64 (FE.wrap .i64 ((FE.wrap .u64 m).tmod 40))) (.int .i64 m)) := by kernel_rfl

noncomputable def chkB (b c d y : AV) (j : Nat) : Bool :=
  holdsAfter dB (FE.opsL Tryz.prog (FE.both Tryz.prog X2 20000).call r20 (r20.toList.drop 5) (mid (.ptr (some (33, 0))) b c d (.int .i64 (.ofNat j)) y))

theorem B2 (b c d y : AV) : (List.range 40).all (chkB b c d y) = true := by kernel_rfl

theorem quot (m : Int) : ∃ j : Nat, j < 40 ∧ FE.wrap .i64 ((FE.wrap .u64 m).tmod 40) = .ofNat j := by
  rw [FE.wrap_eq, FE.wrap_eq, IntKind.wrap_u64]
  have h1 : 0 ≤ m % 18446744073709551616 := Int.emod_nonneg _ (by decide)
  rw [Int.tmod_eq_emod_of_nonneg h1]
  have h2 : 0 ≤ m % 18446744073709551616 % 40 := Int.emod_nonneg _ (by decide)
  have h3 : m % 18446744073709551616 % 40 < 40 := Int.emod_lt_of_pos _ (by decide)
  obtain ⟨j, hj⟩ := Int.eq_ofNat_of_zero_le h2
  rw [hj] at h3 ⊢
  refine ⟨j, by omega, ?_⟩
  have : ∀ j : Nat, j < 40 → IntKind.i64.wrap (j : Int) = (j : Int) := by decide
  exact this j (by omega)

theorem B_runs [Base] (hT : ∀ w : World, (∀ b o, Base.kept b = some o → w.heap[b]? = some o) → Tryz.TZ w) (m : Int) : J Tryz.prog (Code.region 20 r20 false) (dA.with 1 (.int .i64 m)).st .normal dB.st := by
  obtain ⟨j, hj, hq⟩ := quot m
  have h1 := B1 m
  rw [hq] at h1
  refine J.region2 (X2_ok hT) progOk mixed 20000 draws_B h1 ?_
  have := List.all_eq_true.1 (B2 (.int .i64 m) (.int .u64 (FE.wrap .u64 m)) (.int .u64 ((FE.wrap .u64 m).tmod 40)) (.int .i64 m)) j (List.mem_range.2 hj)
  unfold chkB at this
  exact this

theorem body_runs [Base] (hT : ∀ w : World, (∀ b o, Base.kept b = some o → w.heap[b]? = some o) → Tryz.TZ w) (m : Int) : J Tryz.prog body (sA (.int .i64 m)) .ret dC.st := by
  have hA : JS Tryz.prog lA (sA (.int .i64 m)) .normal (dA.with 1 (.int .i64 m)).st := JS.of_runsX (X2_ok hT) progOk mixed 20000 draws_A (A_runs (.int .i64 m)) rfl
  have hB : JS Tryz.prog [Code.region 20 r20 false] (dA.with 1 (.int .i64 m)).st .normal dB.st := JS.one (B_runs hT m)
  have hC : JS Tryz.prog lC dB.st .ret dC.st := JS.of_runs (X2_ok hT) progOk mixed 20000 draws_C C_runs
  have hall := JS.append hA (JS.append hB hC)
  rw [← rows_eq] at hall
  have hr : rows = AE.flat body := rfl
  rw [hr] at hall
  exact J.flat hall

/-- THE LAW's CALL: true, and nothing that lay has turned. -/
theorem law_calls (w : World) (hT : Tryz.TZ w) (cs : List Value) (hcs : cs.length = 12) (m : Int) :
    Calls Tryz.prog 3 #[.agg cs.toArray, .int .i64 m] w fun e w' => e = .returned (.bool true) ∧ Below w.heap.size w w' := by
  letI : Base := ⟨fun b => w.heap[b]?⟩
  have hT' : ∀ w' : World, (∀ b o, Base.kept b = some o → w'.heap[b]? = some o) → Tryz.TZ w' := by
    intro w' h k hk
    have h1 := hT k hk
    have hsame : w'.heap[2]? = w.heap[2]? := by
      cases hc : w.heap[2]? with
      | none => rw [World.cell?, hc] at h1; simp at h1
      | some o => exact h 2 o hc
    rw [← h1]
    exact World.cell?_of_block hsame
  have hu : VRels (fun _ => none) [.agg [.top, .top, .top, .top, .top, .top, .top, .top, .top, .top, .top, .top], .int .i64 m] [.agg cs.toArray, .int .i64 m] := by
    simp only [VRels, VRel, and_true]
    match cs, hcs with
    | [_, _, _, _, _, _, _, _, _, _, _, _], _ => simp [VRels, VRel]
  have hb : Tryz.f3.body = some body := rfl
  have hv : readResults Tryz.prog dC.st dC.st.H Tryz.f3.results.toList = some [.bool true] := by kernel_rfl
  refine (calls_of_J Tryz.func3 hb (none_rel 0 w (fun b o h => h)) hu (body_runs hT' m) (by simp) rfl hv).mono ?_
  rintro e w' ⟨u, ρ', rfl, h1, _, h3⟩
  refine ⟨?_, h3.below⟩
  have := bool_rel h1
  rw [this]
end Hn
