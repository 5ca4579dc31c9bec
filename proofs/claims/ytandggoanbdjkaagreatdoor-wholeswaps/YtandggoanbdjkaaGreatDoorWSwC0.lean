/- Calls that were run once (WholeSwaps). Conditions: none. -/
import Derived.Test.YtandggoanbdjkaaGreatDoorWSwX
namespace Sw
open Go Go.Proofs AE

theorem cVerify0_ran : cVerify0.ran ((FE.both Tryz.prog X0 20000).call 24) = true := by kernel_rfl
theorem cPrune0_ran : cPrune0.ran ((FE.both Tryz.prog X0 20000).call 25) = true := by kernel_rfl
theorem cFix0_ran : cFix0.ran ((FE.both Tryz.prog X0 20000).call 26) = true := by kernel_rfl
theorem cInterp0_ran : cInterp0.ran ((FE.both Tryz.prog X0 20000).call 27) = true := by kernel_rfl
theorem cJitx0_ran : cJitx0.ran ((FE.both Tryz.prog X0 20000).call 28) = true := by kernel_rfl
theorem cJita0_ran : cJita0.ran ((FE.both Tryz.prog X0 20000).call 29) = true := by kernel_rfl
end Sw
