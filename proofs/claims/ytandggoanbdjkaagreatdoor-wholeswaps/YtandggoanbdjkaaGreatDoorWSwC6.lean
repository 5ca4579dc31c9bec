/- Host.Run in lives, run once. Conditions: none. -/
import Derived.Test.YtandggoanbdjkaaGreatDoorWSwX
import Derived.Test.YtandggoanbdjkaaGreatDoorWSwD
namespace Sw
open Go Go.Proofs AE

theorem cRun3_ran : cRun3.ran ((FE.both Tryz.prog X0 20000).call 9) = true := by kernel_rfl
end Sw
