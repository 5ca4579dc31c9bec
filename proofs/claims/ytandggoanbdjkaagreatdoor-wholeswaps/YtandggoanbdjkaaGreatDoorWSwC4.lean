/- Calls that were run once (WholeSwaps). Conditions: none. -/
import Derived.Test.YtandggoanbdjkaaGreatDoorWSwX
namespace Sw
open Go Go.Proofs AE

theorem cVerify4_ran : cVerify4.ran ((FE.both Tryz.prog X0 20000).call 24) = true := by kernel_rfl
theorem cPrune4_ran : cPrune4.ran ((FE.both Tryz.prog X0 20000).call 25) = true := by kernel_rfl
theorem cFix4_ran : cFix4.ran ((FE.both Tryz.prog X0 20000).call 26) = true := by kernel_rfl
theorem cInterp4_ran : cInterp4.ran ((FE.both Tryz.prog X0 20000).call 27) = true := by kernel_rfl
theorem cJitx4_ran : cJitx4.ran ((FE.both Tryz.prog X0 20000).call 28) = true := by kernel_rfl
theorem cJita4_ran : cJita4.ran ((FE.both Tryz.prog X0 20000).call 29) = true := by kernel_rfl
end Sw
