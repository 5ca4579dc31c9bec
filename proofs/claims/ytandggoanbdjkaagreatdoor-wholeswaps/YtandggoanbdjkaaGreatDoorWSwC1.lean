/- Calls that were run once (WholeSwaps). Conditions: none. -/
import Derived.Test.YtandggoanbdjkaaGreatDoorWSwX
namespace Sw
open Go Go.Proofs AE

theorem cVerify1_ran : cVerify1.ran ((FE.both Tryz.prog X0 20000).call 24) = true := by kernel_rfl
theorem cPrune1_ran : cPrune1.ran ((FE.both Tryz.prog X0 20000).call 25) = true := by kernel_rfl
theorem cFix1_ran : cFix1.ran ((FE.both Tryz.prog X0 20000).call 26) = true := by kernel_rfl
theorem cInterp1_ran : cInterp1.ran ((FE.both Tryz.prog X0 20000).call 27) = true := by kernel_rfl
theorem cJitx1_ran : cJitx1.ran ((FE.both Tryz.prog X0 20000).call 28) = true := by kernel_rfl
theorem cJita1_ran : cJita1.ran ((FE.both Tryz.prog X0 20000).call 29) = true := by kernel_rfl
end Sw
