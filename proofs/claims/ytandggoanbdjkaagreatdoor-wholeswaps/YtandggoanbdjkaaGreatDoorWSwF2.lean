/- WholeSwaps: Fire by way 2. Conditions: none. -/
import Derived.Test.YtandggoanbdjkaaGreatDoorWSwQ
namespace Sw
open Go Go.Proofs Go.RowKit AE
variable (m : Int) (y : AV) (n i : Nat) (x x' : AV)
theorem f_2_false_0 : endsO (FE.obind (FE.opsL Tryz.prog callF (ops 5) ((ops 5).toList.drop 6) (mid26 m y n i 0 (HO false 0) x x' (.int .i64 (.ofNat 2)))) (codeL Tryz.prog callF loopF l27)) .normal (told false 0) [1, 53, 54, 55] = some [.int .i64 m, y, .int .i64 (.ofNat n), .int .i64 (.ofNat i)] := by kernel_rfl
theorem f_2_false_1 : endsS (FE.obind (FE.opsL Tryz.prog callF (ops 5) ((ops 5).toList.drop 6) (mid26 m y n i 1 (HO false 1) x x' (.int .i64 (.ofNat 2)))) (codeL Tryz.prog callF loopF l27)) .normal (told true 1) true 8 1 (sigW 2) (delW 2) [1, 53, 54, 55] = some [.int .i64 m, y, .int .i64 (.ofNat n), .int .i64 (.ofNat i)] := by kernel_rfl
theorem f_2_false_2 : endsS (FE.obind (FE.opsL Tryz.prog callF (ops 5) ((ops 5).toList.drop 6) (mid26 m y n i 2 (HO false 2) x x' (.int .i64 (.ofNat 2)))) (codeL Tryz.prog callF loopF l27)) .normal (told true 2) true 8 1 (sigW 2) (delW 2) [1, 53, 54, 55] = some [.int .i64 m, y, .int .i64 (.ofNat n), .int .i64 (.ofNat i)] := by kernel_rfl
theorem f_2_false_3 : endsS (FE.obind (FE.opsL Tryz.prog callF (ops 5) ((ops 5).toList.drop 6) (mid26 m y n i 3 (HO false 3) x x' (.int .i64 (.ofNat 2)))) (codeL Tryz.prog callF loopF l27)) .normal (told true 3) true 8 1 (sigW 2) (delW 2) [1, 53, 54, 55] = some [.int .i64 m, y, .int .i64 (.ofNat n), .int .i64 (.ofNat i)] := by kernel_rfl
theorem f_2_false_4 : endsS (FE.obind (FE.opsL Tryz.prog callF (ops 5) ((ops 5).toList.drop 6) (mid26 m y n i 4 (HO false 4) x x' (.int .i64 (.ofNat 2)))) (codeL Tryz.prog callF loopF l27)) .normal (told true 4) true 8 1 (sigW 2) (delW 2) [1, 53, 54, 55] = some [.int .i64 m, y, .int .i64 (.ofNat n), .int .i64 (.ofNat i)] := by kernel_rfl
theorem f_2_false_5 : endsS (FE.obind (FE.opsL Tryz.prog callF (ops 5) ((ops 5).toList.drop 6) (mid26 m y n i 5 (HO false 5) x x' (.int .i64 (.ofNat 2)))) (codeL Tryz.prog callF loopF l27)) .normal (told true 5) true 8 1 (sigW 2) (delW 2) [1, 53, 54, 55] = some [.int .i64 m, y, .int .i64 (.ofNat n), .int .i64 (.ofNat i)] := by kernel_rfl
end Sw
