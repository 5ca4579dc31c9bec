/- Calls of the compilers at the least program, run once. Conditions: none. -/
import Derived.Test.YtandggoanbdjkaaGreatDoorHnC
namespace Hn
open Go Go.Proofs AE

theorem cJitx1_ran : cJitx1.ran ((FE.both Tryz.prog X0 20000).call 28) = true := by kernel_rfl

theorem cJita1_ran : cJita1.ran ((FE.both Tryz.prog X0 20000).call 29) = true := by kernel_rfl

end Hn
