/- Calls that were run once (WholeSwaps). Conditions: none. -/
import Derived.Test.YtandggoanbdjkaaGreatDoorWSwX
namespace Sw
open Go Go.Proofs AE

theorem cVerify2_ran : cVerify2.ran ((FE.both Tryz.prog X0 20000).call 24) = true := by kernel_rfl
theorem cPrune2_ran : cPrune2.ran ((FE.both Tryz.prog X0 20000).call 25) = true := by kernel_rfl
theorem cFix2_ran : cFix2.ran ((FE.both Tryz.prog X0 20000).call 26) = true := by kernel_rfl
theorem cInterp2_ran : cInterp2.ran ((FE.both Tryz.prog X0 20000).call 27) = true := by kernel_rfl
theorem cJitx2_ran : cJitx2.ran ((FE.both Tryz.prog X0 20000).call 28) = true := by kernel_rfl
theorem cJita2_ran : cJita2.ran ((FE.both Tryz.prog X0 20000).call 29) = true := by kernel_rfl
end Sw
