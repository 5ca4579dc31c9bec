/- What is told ahead of all (WholeSwaps). Conditions: none. -/
import Derived.Test.YtandggoanbdjkaaGreatDoorWHnL1
import Derived.Test.YtandggoanbdjkaaGreatDoorWHnOk
import Derived.Test.YtandggoanbdjkaaGreatDoorWSwD
namespace Sw
open Go Go.Proofs AE

/-- what is told ahead of all -/
noncomputable def X0 : AE.Spec := fun f => FE.bcase (Nat.beq f 269) (some (appendSeqSpec 215 3)) (FE.bcase (Nat.beq f 207) (some cloneSpec) (FE.bcase (Nat.beq f 296) (some tzSpec) none))

theorem X0_ok [Base] (hT : ∀ w : World, (∀ b o, Base.kept b = some o → w.heap[b]? = some o) → Tryz.TZ w) : SpecOk Tryz.prog X0 := by
  intro f g hg
  unfold X0 at hg
  rw [FE.bcase_eq, FE.bcase_eq, FE.bcase_eq] at hg
  split at hg
  · rename_i h; have := Nat.eq_of_beq_eq_true h; subst this
    simp only [Option.some.injEq] at hg; subst hg; exact Tryz.runOk_append
  · split at hg
    · rename_i h; have := Nat.eq_of_beq_eq_true h; subst this
      simp only [Option.some.injEq] at hg; subst hg; exact Tryz.runOk_clone
    · split at hg
      · rename_i h; have := Nat.eq_of_beq_eq_true h; subst this
        simp only [Option.some.injEq] at hg; subst hg; exact Tryz.runOk_tz hT
      · cases hg
end Sw
