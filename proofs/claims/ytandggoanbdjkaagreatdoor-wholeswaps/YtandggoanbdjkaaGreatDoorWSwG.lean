/- WholeSwaps: Fire at a hook where nothing is. Conditions: none. -/
import Derived.Test.YtandggoanbdjkaaGreatDoorWSwQ
namespace Sw
open Go Go.Proofs Go.RowKit AE
variable (m : Int) (y : AV) (n i : Nat)
theorem g_false_0_0 : endsO (FE.obind (FE.opsL Tryz.prog callF (ops 8) ((ops 8).toList.drop 3) (mid29 m y n i 0 (HO false 0) (.int .i64 (.ofNat 0)))) (codeL Tryz.prog callF loopF l30)) .normal (told false 0) [1, 53, 54, 55] = some [.int .i64 m, y, .int .i64 (.ofNat n), .int .i64 (.ofNat i)] := by kernel_rfl
theorem g_false_0_1 : endsO (FE.obind (FE.opsL Tryz.prog callF (ops 8) ((ops 8).toList.drop 3) (mid29 m y n i 0 (HO false 0) (.int .i64 (.ofNat 1)))) (codeL Tryz.prog callF loopF l30)) .normal (told false 0) [1, 53, 54, 55] = some [.int .i64 m, y, .int .i64 (.ofNat n), .int .i64 (.ofNat i)] := by kernel_rfl
theorem g_false_0_2 : endsO (FE.obind (FE.opsL Tryz.prog callF (ops 8) ((ops 8).toList.drop 3) (mid29 m y n i 0 (HO false 0) (.int .i64 (.ofNat 2)))) (codeL Tryz.prog callF loopF l30)) .normal (told false 0) [1, 53, 54, 55] = some [.int .i64 m, y, .int .i64 (.ofNat n), .int .i64 (.ofNat i)] := by kernel_rfl
theorem g_false_0_3 : endsO (FE.obind (FE.opsL Tryz.prog callF (ops 8) ((ops 8).toList.drop 3) (mid29 m y n i 0 (HO false 0) (.int .i64 (.ofNat 3)))) (codeL Tryz.prog callF loopF l30)) .normal (told false 0) [1, 53, 54, 55] = some [.int .i64 m, y, .int .i64 (.ofNat n), .int .i64 (.ofNat i)] := by kernel_rfl
theorem g_true_0_0 : endsO (FE.obind (FE.opsL Tryz.prog callF (ops 8) ((ops 8).toList.drop 3) (mid29 m y n i 0 (HO true 0) (.int .i64 (.ofNat 0)))) (codeL Tryz.prog callF loopF l30)) .normal (told true 0) [1, 53, 54, 55] = some [.int .i64 m, y, .int .i64 (.ofNat n), .int .i64 (.ofNat i)] := by kernel_rfl
theorem g_true_0_1 : endsO (FE.obind (FE.opsL Tryz.prog callF (ops 8) ((ops 8).toList.drop 3) (mid29 m y n i 0 (HO true 0) (.int .i64 (.ofNat 1)))) (codeL Tryz.prog callF loopF l30)) .normal (told true 0) [1, 53, 54, 55] = some [.int .i64 m, y, .int .i64 (.ofNat n), .int .i64 (.ofNat i)] := by kernel_rfl
theorem g_true_0_2 : endsO (FE.obind (FE.opsL Tryz.prog callF (ops 8) ((ops 8).toList.drop 3) (mid29 m y n i 0 (HO true 0) (.int .i64 (.ofNat 2)))) (codeL Tryz.prog callF loopF l30)) .normal (told true 0) [1, 53, 54, 55] = some [.int .i64 m, y, .int .i64 (.ofNat n), .int .i64 (.ofNat i)] := by kernel_rfl
theorem g_true_0_3 : endsO (FE.obind (FE.opsL Tryz.prog callF (ops 8) ((ops 8).toList.drop 3) (mid29 m y n i 0 (HO true 0) (.int .i64 (.ofNat 3)))) (codeL Tryz.prog callF loopF l30)) .normal (told true 0) [1, 53, 54, 55] = some [.int .i64 m, y, .int .i64 (.ofNat n), .int .i64 (.ofNat i)] := by kernel_rfl
theorem g_true_1_0 : endsO (FE.obind (FE.opsL Tryz.prog callF (ops 8) ((ops 8).toList.drop 3) (mid29 m y n i 1 (HO true 1) (.int .i64 (.ofNat 0)))) (codeL Tryz.prog callF loopF l30)) .normal (told true 1) [1, 53, 54, 55] = some [.int .i64 m, y, .int .i64 (.ofNat n), .int .i64 (.ofNat i)] := by kernel_rfl
theorem g_true_1_1 : endsO (FE.obind (FE.opsL Tryz.prog callF (ops 8) ((ops 8).toList.drop 3) (mid29 m y n i 1 (HO true 1) (.int .i64 (.ofNat 1)))) (codeL Tryz.prog callF loopF l30)) .normal (told true 1) [1, 53, 54, 55] = some [.int .i64 m, y, .int .i64 (.ofNat n), .int .i64 (.ofNat i)] := by kernel_rfl
theorem g_true_1_2 : endsO (FE.obind (FE.opsL Tryz.prog callF (ops 8) ((ops 8).toList.drop 3) (mid29 m y n i 1 (HO true 1) (.int .i64 (.ofNat 2)))) (codeL Tryz.prog callF loopF l30)) .normal (told true 1) [1, 53, 54, 55] = some [.int .i64 m, y, .int .i64 (.ofNat n), .int .i64 (.ofNat i)] := by kernel_rfl
theorem g_true_1_3 : endsO (FE.obind (FE.opsL Tryz.prog callF (ops 8) ((ops 8).toList.drop 3) (mid29 m y n i 1 (HO true 1) (.int .i64 (.ofNat 3)))) (codeL Tryz.prog callF loopF l30)) .normal (told true 1) [1, 53, 54, 55] = some [.int .i64 m, y, .int .i64 (.ofNat n), .int .i64 (.ofNat i)] := by kernel_rfl
theorem g_true_2_0 : endsO (FE.obind (FE.opsL Tryz.prog callF (ops 8) ((ops 8).toList.drop 3) (mid29 m y n i 2 (HO true 2) (.int .i64 (.ofNat 0)))) (codeL Tryz.prog callF loopF l30)) .normal (told true 2) [1, 53, 54, 55] = some [.int .i64 m, y, .int .i64 (.ofNat n), .int .i64 (.ofNat i)] := by kernel_rfl
theorem g_true_2_1 : endsO (FE.obind (FE.opsL Tryz.prog callF (ops 8) ((ops 8).toList.drop 3) (mid29 m y n i 2 (HO true 2) (.int .i64 (.ofNat 1)))) (codeL Tryz.prog callF loopF l30)) .normal (told true 2) [1, 53, 54, 55] = some [.int .i64 m, y, .int .i64 (.ofNat n), .int .i64 (.ofNat i)] := by kernel_rfl
theorem g_true_2_2 : endsO (FE.obind (FE.opsL Tryz.prog callF (ops 8) ((ops 8).toList.drop 3) (mid29 m y n i 2 (HO true 2) (.int .i64 (.ofNat 2)))) (codeL Tryz.prog callF loopF l30)) .normal (told true 2) [1, 53, 54, 55] = some [.int .i64 m, y, .int .i64 (.ofNat n), .int .i64 (.ofNat i)] := by kernel_rfl
theorem g_true_2_3 : endsO (FE.obind (FE.opsL Tryz.prog callF (ops 8) ((ops 8).toList.drop 3) (mid29 m y n i 2 (HO true 2) (.int .i64 (.ofNat 3)))) (codeL Tryz.prog callF loopF l30)) .normal (told true 2) [1, 53, 54, 55] = some [.int .i64 m, y, .int .i64 (.ofNat n), .int .i64 (.ofNat i)] := by kernel_rfl
theorem g_true_3_0 : endsO (FE.obind (FE.opsL Tryz.prog callF (ops 8) ((ops 8).toList.drop 3) (mid29 m y n i 3 (HO true 3) (.int .i64 (.ofNat 0)))) (codeL Tryz.prog callF loopF l30)) .normal (told true 3) [1, 53, 54, 55] = some [.int .i64 m, y, .int .i64 (.ofNat n), .int .i64 (.ofNat i)] := by kernel_rfl
theorem g_true_3_1 : endsO (FE.obind (FE.opsL Tryz.prog callF (ops 8) ((ops 8).toList.drop 3) (mid29 m y n i 3 (HO true 3) (.int .i64 (.ofNat 1)))) (codeL Tryz.prog callF loopF l30)) .normal (told true 3) [1, 53, 54, 55] = some [.int .i64 m, y, .int .i64 (.ofNat n), .int .i64 (.ofNat i)] := by kernel_rfl
theorem g_true_3_2 : endsO (FE.obind (FE.opsL Tryz.prog callF (ops 8) ((ops 8).toList.drop 3) (mid29 m y n i 3 (HO true 3) (.int .i64 (.ofNat 2)))) (codeL Tryz.prog callF loopF l30)) .normal (told true 3) [1, 53, 54, 55] = some [.int .i64 m, y, .int .i64 (.ofNat n), .int .i64 (.ofNat i)] := by kernel_rfl
theorem g_true_3_3 : endsO (FE.obind (FE.opsL Tryz.prog callF (ops 8) ((ops 8).toList.drop 3) (mid29 m y n i 3 (HO true 3) (.int .i64 (.ofNat 3)))) (codeL Tryz.prog callF loopF l30)) .normal (told true 3) [1, 53, 54, 55] = some [.int .i64 m, y, .int .i64 (.ofNat n), .int .i64 (.ofNat i)] := by kernel_rfl
theorem g_true_4_0 : endsO (FE.obind (FE.opsL Tryz.prog callF (ops 8) ((ops 8).toList.drop 3) (mid29 m y n i 4 (HO true 4) (.int .i64 (.ofNat 0)))) (codeL Tryz.prog callF loopF l30)) .normal (told true 4) [1, 53, 54, 55] = some [.int .i64 m, y, .int .i64 (.ofNat n), .int .i64 (.ofNat i)] := by kernel_rfl
theorem g_true_4_1 : endsO (FE.obind (FE.opsL Tryz.prog callF (ops 8) ((ops 8).toList.drop 3) (mid29 m y n i 4 (HO true 4) (.int .i64 (.ofNat 1)))) (codeL Tryz.prog callF loopF l30)) .normal (told true 4) [1, 53, 54, 55] = some [.int .i64 m, y, .int .i64 (.ofNat n), .int .i64 (.ofNat i)] := by kernel_rfl
theorem g_true_4_2 : endsO (FE.obind (FE.opsL Tryz.prog callF (ops 8) ((ops 8).toList.drop 3) (mid29 m y n i 4 (HO true 4) (.int .i64 (.ofNat 2)))) (codeL Tryz.prog callF loopF l30)) .normal (told true 4) [1, 53, 54, 55] = some [.int .i64 m, y, .int .i64 (.ofNat n), .int .i64 (.ofNat i)] := by kernel_rfl
theorem g_true_4_3 : endsO (FE.obind (FE.opsL Tryz.prog callF (ops 8) ((ops 8).toList.drop 3) (mid29 m y n i 4 (HO true 4) (.int .i64 (.ofNat 3)))) (codeL Tryz.prog callF loopF l30)) .normal (told true 4) [1, 53, 54, 55] = some [.int .i64 m, y, .int .i64 (.ofNat n), .int .i64 (.ofNat i)] := by kernel_rfl
theorem g_true_5_0 : endsO (FE.obind (FE.opsL Tryz.prog callF (ops 8) ((ops 8).toList.drop 3) (mid29 m y n i 5 (HO true 5) (.int .i64 (.ofNat 0)))) (codeL Tryz.prog callF loopF l30)) .normal (told true 5) [1, 53, 54, 55] = some [.int .i64 m, y, .int .i64 (.ofNat n), .int .i64 (.ofNat i)] := by kernel_rfl
theorem g_true_5_1 : endsO (FE.obind (FE.opsL Tryz.prog callF (ops 8) ((ops 8).toList.drop 3) (mid29 m y n i 5 (HO true 5) (.int .i64 (.ofNat 1)))) (codeL Tryz.prog callF loopF l30)) .normal (told true 5) [1, 53, 54, 55] = some [.int .i64 m, y, .int .i64 (.ofNat n), .int .i64 (.ofNat i)] := by kernel_rfl
theorem g_true_5_2 : endsO (FE.obind (FE.opsL Tryz.prog callF (ops 8) ((ops 8).toList.drop 3) (mid29 m y n i 5 (HO true 5) (.int .i64 (.ofNat 2)))) (codeL Tryz.prog callF loopF l30)) .normal (told true 5) [1, 53, 54, 55] = some [.int .i64 m, y, .int .i64 (.ofNat n), .int .i64 (.ofNat i)] := by kernel_rfl
theorem g_true_5_3 : endsO (FE.obind (FE.opsL Tryz.prog callF (ops 8) ((ops 8).toList.drop 3) (mid29 m y n i 5 (HO true 5) (.int .i64 (.ofNat 3)))) (codeL Tryz.prog callF loopF l30)) .normal (told true 5) [1, 53, 54, 55] = some [.int .i64 m, y, .int .i64 (.ofNat n), .int .i64 (.ofNat i)] := by kernel_rfl
theorem gAll (k w : Nat) (hk : k < 6) (hw : w < 4) : endsO (FE.obind (FE.opsL Tryz.prog callF (ops 8) ((ops 8).toList.drop 3) (mid29 m y n i k (HO true k) (.int .i64 (.ofNat w)))) (codeL Tryz.prog callF loopF l30)) .normal (told true k) [1, 53, 54, 55] = some [.int .i64 m, y, .int .i64 (.ofNat n), .int .i64 (.ofNat i)] :=
  match k, w, hk, hw with
  | 0, 0, _, _ => g_true_0_0 m y n i
  | 0, 1, _, _ => g_true_0_1 m y n i
  | 0, 2, _, _ => g_true_0_2 m y n i
  | 0, 3, _, _ => g_true_0_3 m y n i
  | 1, 0, _, _ => g_true_1_0 m y n i
  | 1, 1, _, _ => g_true_1_1 m y n i
  | 1, 2, _, _ => g_true_1_2 m y n i
  | 1, 3, _, _ => g_true_1_3 m y n i
  | 2, 0, _, _ => g_true_2_0 m y n i
  | 2, 1, _, _ => g_true_2_1 m y n i
  | 2, 2, _, _ => g_true_2_2 m y n i
  | 2, 3, _, _ => g_true_2_3 m y n i
  | 3, 0, _, _ => g_true_3_0 m y n i
  | 3, 1, _, _ => g_true_3_1 m y n i
  | 3, 2, _, _ => g_true_3_2 m y n i
  | 3, 3, _, _ => g_true_3_3 m y n i
  | 4, 0, _, _ => g_true_4_0 m y n i
  | 4, 1, _, _ => g_true_4_1 m y n i
  | 4, 2, _, _ => g_true_4_2 m y n i
  | 4, 3, _, _ => g_true_4_3 m y n i
  | 5, 0, _, _ => g_true_5_0 m y n i
  | 5, 1, _, _ => g_true_5_1 m y n i
  | 5, 2, _, _ => g_true_5_2 m y n i
  | 5, 3, _, _ => g_true_5_3 m y n i
theorem g0All (w : Nat) (hw : w < 4) : endsO (FE.obind (FE.opsL Tryz.prog callF (ops 8) ((ops 8).toList.drop 3) (mid29 m y n i 0 (HO false 0) (.int .i64 (.ofNat w)))) (codeL Tryz.prog callF loopF l30)) .normal (told false 0) [1, 53, 54, 55] = some [.int .i64 m, y, .int .i64 (.ofNat n), .int .i64 (.ofNat i)] :=
  match w, hw with
  | 0, _ => g_false_0_0 m y n i
  | 1, _ => g_false_0_1 m y n i
  | 2, _ => g_false_0_2 m y n i
  | 3, _ => g_false_0_3 m y n i
end Sw
