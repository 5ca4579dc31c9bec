/- Host.Run in lives, run once. Conditions: none. -/
import Derived.Test.YtandggoanbdjkaaGreatDoorWSwX
import Derived.Test.YtandggoanbdjkaaGreatDoorWSwD
namespace Sw
open Go Go.Proofs AE

theorem cRun0_ran : cRun0.ran ((FE.both Tryz.prog X0 20000).call 9) = true := by kernel_rfl
theorem cRun1_ran : cRun1.ran ((FE.both Tryz.prog X0 20000).call 9) = true := by kernel_rfl
theorem cRun2_ran : cRun2.ran ((FE.both Tryz.prog X0 20000).call 9) = true := by kernel_rfl
end Sw
