/- Calls of the gate and the compilers at the least program, run once. Conditions: none. -/
import Derived.Test.YtandggoanbdjkaaGreatDoorHnL3
import Derived.Test.YtandggoanbdjkaaGreatDoorHnOk
import Derived.Test.YtandggoanbdjkaaGreatDoorHnD
namespace Hn
open Go Go.Proofs AE

/-- what is told ahead of all -/
noncomputable def X0 : AE.Spec := fun f => FE.bcase (Nat.beq f 269) (some (appendSeqSpec 215 3)) (FE.bcase (Nat.beq f 207) (some cloneSpec) (FE.bcase (Nat.beq f 296) (some tzSpec) none))

theorem X0_ok [Base] (hT : ∀ w : World, (∀ b o, Base.kept b = some o → w.heap[b]? = some o) → Tryz.TZ w) : SpecOk Tryz.prog X0 := by
  intro f g hg
  unfold X0 at hg
  rw [FE.bcase_eq, FE.bcase_eq, FE.bcase_eq] at hg
  split at hg
  · rename_i h; have := Nat.eq_of_beq_eq_true h; subst this
    simp only [Option.some.injEq] at hg; subst hg; exact Tryz.runOk_append
  · split at hg
    · rename_i h; have := Nat.eq_of_beq_eq_true h; subst this
      simp only [Option.some.injEq] at hg; subst hg; exact Tryz.runOk_clone
    · split at hg
      · rename_i h; have := Nat.eq_of_beq_eq_true h; subst this
        simp only [Option.some.injEq] at hg; subst hg; exact Tryz.runOk_tz hT
      · cases hg

theorem cVerify1_ran : cVerify1.ran ((FE.both Tryz.prog X0 20000).call 24) = true := by kernel_rfl

theorem cPrune1_ran : cPrune1.ran ((FE.both Tryz.prog X0 20000).call 25) = true := by kernel_rfl

theorem cFix1_ran : cFix1.ran ((FE.both Tryz.prog X0 20000).call 26) = true := by kernel_rfl

theorem cInterp1_ran : cInterp1.ran ((FE.both Tryz.prog X0 20000).call 27) = true := by kernel_rfl

theorem cVerify2_ran : cVerify2.ran ((FE.both Tryz.prog X0 20000).call 24) = true := by kernel_rfl

theorem cFix2_ran : cFix2.ran ((FE.both Tryz.prog X0 20000).call 26) = true := by kernel_rfl

end Hn
