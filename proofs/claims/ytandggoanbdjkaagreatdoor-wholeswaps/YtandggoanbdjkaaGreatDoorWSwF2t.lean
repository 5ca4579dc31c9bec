/- WholeSwaps: Fire by way 2. Conditions: none. -/
import Derived.Test.YtandggoanbdjkaaGreatDoorWSwQ
namespace Sw
open Go Go.Proofs Go.RowKit AE
variable (m : Int) (y : AV) (n i : Nat) (x x' : AV)
theorem f_2_true_0 : endsO (FE.obind (FE.opsL Tryz.prog callF (ops 5) ((ops 5).toList.drop 6) (mid26 m y n i 0 (HO true 0) x x' (.int .i64 (.ofNat 2)))) (codeL Tryz.prog callF loopF l27)) .normal (told true 0) [1, 53, 54, 55] = some [.int .i64 m, y, .int .i64 (.ofNat n), .int .i64 (.ofNat i)] := by kernel_rfl
theorem f_2_true_1 : endsS (FE.obind (FE.opsL Tryz.prog callF (ops 5) ((ops 5).toList.drop 6) (mid26 m y n i 1 (HO true 1) x x' (.int .i64 (.ofNat 2)))) (codeL Tryz.prog callF loopF l27)) .normal (told true 1) false 8 1 (sigW 2) (delW 2) [1, 53, 54, 55] = some [.int .i64 m, y, .int .i64 (.ofNat n), .int .i64 (.ofNat i)] := by kernel_rfl
theorem f_2_true_2 : endsS (FE.obind (FE.opsL Tryz.prog callF (ops 5) ((ops 5).toList.drop 6) (mid26 m y n i 2 (HO true 2) x x' (.int .i64 (.ofNat 2)))) (codeL Tryz.prog callF loopF l27)) .normal (told true 2) false 8 1 (sigW 2) (delW 2) [1, 53, 54, 55] = some [.int .i64 m, y, .int .i64 (.ofNat n), .int .i64 (.ofNat i)] := by kernel_rfl
theorem f_2_true_3 : endsS (FE.obind (FE.opsL Tryz.prog callF (ops 5) ((ops 5).toList.drop 6) (mid26 m y n i 3 (HO true 3) x x' (.int .i64 (.ofNat 2)))) (codeL Tryz.prog callF loopF l27)) .normal (told true 3) false 8 1 (sigW 2) (delW 2) [1, 53, 54, 55] = some [.int .i64 m, y, .int .i64 (.ofNat n), .int .i64 (.ofNat i)] := by kernel_rfl
theorem f_2_true_4 : endsS (FE.obind (FE.opsL Tryz.prog callF (ops 5) ((ops 5).toList.drop 6) (mid26 m y n i 4 (HO true 4) x x' (.int .i64 (.ofNat 2)))) (codeL Tryz.prog callF loopF l27)) .normal (told true 4) false 8 1 (sigW 2) (delW 2) [1, 53, 54, 55] = some [.int .i64 m, y, .int .i64 (.ofNat n), .int .i64 (.ofNat i)] := by kernel_rfl
theorem f_2_true_5 : endsS (FE.obind (FE.opsL Tryz.prog callF (ops 5) ((ops 5).toList.drop 6) (mid26 m y n i 5 (HO true 5) x x' (.int .i64 (.ofNat 2)))) (codeL Tryz.prog callF loopF l27)) .normal (told true 5) false 8 1 (sigW 2) (delW 2) [1, 53, 54, 55] = some [.int .i64 m, y, .int .i64 (.ofNat n), .int .i64 (.ofNat i)] := by kernel_rfl
end Sw
