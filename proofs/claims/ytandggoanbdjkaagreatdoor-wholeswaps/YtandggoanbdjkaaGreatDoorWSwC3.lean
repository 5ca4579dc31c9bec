/- Calls that were run once (WholeSwaps). Conditions: none. -/
import Derived.Test.YtandggoanbdjkaaGreatDoorWSwX
namespace Sw
open Go Go.Proofs AE

theorem cVerify3_ran : cVerify3.ran ((FE.both Tryz.prog X0 20000).call 24) = true := by kernel_rfl
theorem cPrune3_ran : cPrune3.ran ((FE.both Tryz.prog X0 20000).call 25) = true := by kernel_rfl
theorem cFix3_ran : cFix3.ran ((FE.both Tryz.prog X0 20000).call 26) = true := by kernel_rfl
theorem cInterp3_ran : cInterp3.ran ((FE.both Tryz.prog X0 20000).call 27) = true := by kernel_rfl
theorem cJitx3_ran : cJitx3.ran ((FE.both Tryz.prog X0 20000).call 28) = true := by kernel_rfl
theorem cJita3_ran : cJita3.ran ((FE.both Tryz.prog X0 20000).call 29) = true := by kernel_rfl
end Sw
