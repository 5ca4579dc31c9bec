/- WholeSwaps: a program is attached or detached. Conditions: none. -/
import Derived.Test.YtandggoanbdjkaaGreatDoorWSwQ
namespace Sw
open Go Go.Proofs Go.RowKit AE
variable (m : Int) (y : AV) (n i : Nat)
def after (k q : Nat) : Nat := bif Nat.blt q 5 then q + 1 else bif Nat.beq q 5 then 0 else k
def ysO (m : Int) (y : AV) (n i : Nat) : List AV := [.int .i64 (.ofNat i), .int .i64 m, y, .int .i64 (.ofNat n), .int .i64 (.ofNat i)]
theorem k_false_0_0 : endsO (codeL Tryz.prog callF loopF [cB4] (AE.cut 126 ((13, .int .i64 (.ofNat 0)) :: (11, .int .i64 (.ofNat i)) :: LT m y n i 0) (HO false 0))) .normal (told false 1) [11, 1, 53, 54, 55] = some (ysO m y n i) := by kernel_rfl
theorem k_false_0_1 : endsO (codeL Tryz.prog callF loopF [cB4] (AE.cut 126 ((13, .int .i64 (.ofNat 1)) :: (11, .int .i64 (.ofNat i)) :: LT m y n i 0) (HO false 0))) .normal (told false 2) [11, 1, 53, 54, 55] = some (ysO m y n i) := by kernel_rfl
theorem k_false_0_2 : endsO (codeL Tryz.prog callF loopF [cB4] (AE.cut 126 ((13, .int .i64 (.ofNat 2)) :: (11, .int .i64 (.ofNat i)) :: LT m y n i 0) (HO false 0))) .normal (told false 3) [11, 1, 53, 54, 55] = some (ysO m y n i) := by kernel_rfl
theorem k_false_0_3 : endsO (codeL Tryz.prog callF loopF [cB4] (AE.cut 126 ((13, .int .i64 (.ofNat 3)) :: (11, .int .i64 (.ofNat i)) :: LT m y n i 0) (HO false 0))) .normal (told false 4) [11, 1, 53, 54, 55] = some (ysO m y n i) := by kernel_rfl
theorem k_false_0_4 : endsO (codeL Tryz.prog callF loopF [cB4] (AE.cut 126 ((13, .int .i64 (.ofNat 4)) :: (11, .int .i64 (.ofNat i)) :: LT m y n i 0) (HO false 0))) .normal (told false 5) [11, 1, 53, 54, 55] = some (ysO m y n i) := by kernel_rfl
theorem k_false_0_5 : endsO (codeL Tryz.prog callF loopF [cB4] (AE.cut 126 ((13, .int .i64 (.ofNat 5)) :: (11, .int .i64 (.ofNat i)) :: LT m y n i 0) (HO false 0))) .normal (told false 0) [11, 1, 53, 54, 55] = some (ysO m y n i) := by kernel_rfl
theorem k_false_0_6 : endsO (codeL Tryz.prog callF loopF [cB4] (AE.cut 126 ((13, .int .i64 (.ofNat 6)) :: (11, .int .i64 (.ofNat i)) :: LT m y n i 0) (HO false 0))) .normal (told false 0) [11, 1, 53, 54, 55] = some (ysO m y n i) := by kernel_rfl
theorem k_false_1_0 : endsO (codeL Tryz.prog callF loopF [cB4] (AE.cut 126 ((13, .int .i64 (.ofNat 0)) :: (11, .int .i64 (.ofNat i)) :: LT m y n i 1) (HO false 1))) .normal (told false 1) [11, 1, 53, 54, 55] = some (ysO m y n i) := by kernel_rfl
theorem k_false_1_1 : endsO (codeL Tryz.prog callF loopF [cB4] (AE.cut 126 ((13, .int .i64 (.ofNat 1)) :: (11, .int .i64 (.ofNat i)) :: LT m y n i 1) (HO false 1))) .normal (told false 2) [11, 1, 53, 54, 55] = some (ysO m y n i) := by kernel_rfl
theorem k_false_1_2 : endsO (codeL Tryz.prog callF loopF [cB4] (AE.cut 126 ((13, .int .i64 (.ofNat 2)) :: (11, .int .i64 (.ofNat i)) :: LT m y n i 1) (HO false 1))) .normal (told false 3) [11, 1, 53, 54, 55] = some (ysO m y n i) := by kernel_rfl
theorem k_false_1_3 : endsO (codeL Tryz.prog callF loopF [cB4] (AE.cut 126 ((13, .int .i64 (.ofNat 3)) :: (11, .int .i64 (.ofNat i)) :: LT m y n i 1) (HO false 1))) .normal (told false 4) [11, 1, 53, 54, 55] = some (ysO m y n i) := by kernel_rfl
theorem k_false_1_4 : endsO (codeL Tryz.prog callF loopF [cB4] (AE.cut 126 ((13, .int .i64 (.ofNat 4)) :: (11, .int .i64 (.ofNat i)) :: LT m y n i 1) (HO false 1))) .normal (told false 5) [11, 1, 53, 54, 55] = some (ysO m y n i) := by kernel_rfl
theorem k_false_1_5 : endsO (codeL Tryz.prog callF loopF [cB4] (AE.cut 126 ((13, .int .i64 (.ofNat 5)) :: (11, .int .i64 (.ofNat i)) :: LT m y n i 1) (HO false 1))) .normal (told false 0) [11, 1, 53, 54, 55] = some (ysO m y n i) := by kernel_rfl
theorem k_false_1_6 : endsO (codeL Tryz.prog callF loopF [cB4] (AE.cut 126 ((13, .int .i64 (.ofNat 6)) :: (11, .int .i64 (.ofNat i)) :: LT m y n i 1) (HO false 1))) .normal (told false 1) [11, 1, 53, 54, 55] = some (ysO m y n i) := by kernel_rfl
theorem k_false_2_0 : endsO (codeL Tryz.prog callF loopF [cB4] (AE.cut 126 ((13, .int .i64 (.ofNat 0)) :: (11, .int .i64 (.ofNat i)) :: LT m y n i 2) (HO false 2))) .normal (told false 1) [11, 1, 53, 54, 55] = some (ysO m y n i) := by kernel_rfl
theorem k_false_2_1 : endsO (codeL Tryz.prog callF loopF [cB4] (AE.cut 126 ((13, .int .i64 (.ofNat 1)) :: (11, .int .i64 (.ofNat i)) :: LT m y n i 2) (HO false 2))) .normal (told false 2) [11, 1, 53, 54, 55] = some (ysO m y n i) := by kernel_rfl
theorem k_false_2_2 : endsO (codeL Tryz.prog callF loopF [cB4] (AE.cut 126 ((13, .int .i64 (.ofNat 2)) :: (11, .int .i64 (.ofNat i)) :: LT m y n i 2) (HO false 2))) .normal (told false 3) [11, 1, 53, 54, 55] = some (ysO m y n i) := by kernel_rfl
theorem k_false_2_3 : endsO (codeL Tryz.prog callF loopF [cB4] (AE.cut 126 ((13, .int .i64 (.ofNat 3)) :: (11, .int .i64 (.ofNat i)) :: LT m y n i 2) (HO false 2))) .normal (told false 4) [11, 1, 53, 54, 55] = some (ysO m y n i) := by kernel_rfl
theorem k_false_2_4 : endsO (codeL Tryz.prog callF loopF [cB4] (AE.cut 126 ((13, .int .i64 (.ofNat 4)) :: (11, .int .i64 (.ofNat i)) :: LT m y n i 2) (HO false 2))) .normal (told false 5) [11, 1, 53, 54, 55] = some (ysO m y n i) := by kernel_rfl
theorem k_false_2_5 : endsO (codeL Tryz.prog callF loopF [cB4] (AE.cut 126 ((13, .int .i64 (.ofNat 5)) :: (11, .int .i64 (.ofNat i)) :: LT m y n i 2) (HO false 2))) .normal (told false 0) [11, 1, 53, 54, 55] = some (ysO m y n i) := by kernel_rfl
theorem k_false_2_6 : endsO (codeL Tryz.prog callF loopF [cB4] (AE.cut 126 ((13, .int .i64 (.ofNat 6)) :: (11, .int .i64 (.ofNat i)) :: LT m y n i 2) (HO false 2))) .normal (told false 2) [11, 1, 53, 54, 55] = some (ysO m y n i) := by kernel_rfl
theorem k_false_3_0 : endsO (codeL Tryz.prog callF loopF [cB4] (AE.cut 126 ((13, .int .i64 (.ofNat 0)) :: (11, .int .i64 (.ofNat i)) :: LT m y n i 3) (HO false 3))) .normal (told false 1) [11, 1, 53, 54, 55] = some (ysO m y n i) := by kernel_rfl
theorem k_false_3_1 : endsO (codeL Tryz.prog callF loopF [cB4] (AE.cut 126 ((13, .int .i64 (.ofNat 1)) :: (11, .int .i64 (.ofNat i)) :: LT m y n i 3) (HO false 3))) .normal (told false 2) [11, 1, 53, 54, 55] = some (ysO m y n i) := by kernel_rfl
theorem k_false_3_2 : endsO (codeL Tryz.prog callF loopF [cB4] (AE.cut 126 ((13, .int .i64 (.ofNat 2)) :: (11, .int .i64 (.ofNat i)) :: LT m y n i 3) (HO false 3))) .normal (told false 3) [11, 1, 53, 54, 55] = some (ysO m y n i) := by kernel_rfl
theorem k_false_3_3 : endsO (codeL Tryz.prog callF loopF [cB4] (AE.cut 126 ((13, .int .i64 (.ofNat 3)) :: (11, .int .i64 (.ofNat i)) :: LT m y n i 3) (HO false 3))) .normal (told false 4) [11, 1, 53, 54, 55] = some (ysO m y n i) := by kernel_rfl
theorem k_false_3_4 : endsO (codeL Tryz.prog callF loopF [cB4] (AE.cut 126 ((13, .int .i64 (.ofNat 4)) :: (11, .int .i64 (.ofNat i)) :: LT m y n i 3) (HO false 3))) .normal (told false 5) [11, 1, 53, 54, 55] = some (ysO m y n i) := by kernel_rfl
theorem k_false_3_5 : endsO (codeL Tryz.prog callF loopF [cB4] (AE.cut 126 ((13, .int .i64 (.ofNat 5)) :: (11, .int .i64 (.ofNat i)) :: LT m y n i 3) (HO false 3))) .normal (told false 0) [11, 1, 53, 54, 55] = some (ysO m y n i) := by kernel_rfl
theorem k_false_3_6 : endsO (codeL Tryz.prog callF loopF [cB4] (AE.cut 126 ((13, .int .i64 (.ofNat 6)) :: (11, .int .i64 (.ofNat i)) :: LT m y n i 3) (HO false 3))) .normal (told false 3) [11, 1, 53, 54, 55] = some (ysO m y n i) := by kernel_rfl
theorem k_false_4_0 : endsO (codeL Tryz.prog callF loopF [cB4] (AE.cut 126 ((13, .int .i64 (.ofNat 0)) :: (11, .int .i64 (.ofNat i)) :: LT m y n i 4) (HO false 4))) .normal (told false 1) [11, 1, 53, 54, 55] = some (ysO m y n i) := by kernel_rfl
theorem k_false_4_1 : endsO (codeL Tryz.prog callF loopF [cB4] (AE.cut 126 ((13, .int .i64 (.ofNat 1)) :: (11, .int .i64 (.ofNat i)) :: LT m y n i 4) (HO false 4))) .normal (told false 2) [11, 1, 53, 54, 55] = some (ysO m y n i) := by kernel_rfl
theorem k_false_4_2 : endsO (codeL Tryz.prog callF loopF [cB4] (AE.cut 126 ((13, .int .i64 (.ofNat 2)) :: (11, .int .i64 (.ofNat i)) :: LT m y n i 4) (HO false 4))) .normal (told false 3) [11, 1, 53, 54, 55] = some (ysO m y n i) := by kernel_rfl
theorem k_false_4_3 : endsO (codeL Tryz.prog callF loopF [cB4] (AE.cut 126 ((13, .int .i64 (.ofNat 3)) :: (11, .int .i64 (.ofNat i)) :: LT m y n i 4) (HO false 4))) .normal (told false 4) [11, 1, 53, 54, 55] = some (ysO m y n i) := by kernel_rfl
theorem k_false_4_4 : endsO (codeL Tryz.prog callF loopF [cB4] (AE.cut 126 ((13, .int .i64 (.ofNat 4)) :: (11, .int .i64 (.ofNat i)) :: LT m y n i 4) (HO false 4))) .normal (told false 5) [11, 1, 53, 54, 55] = some (ysO m y n i) := by kernel_rfl
theorem k_false_4_5 : endsO (codeL Tryz.prog callF loopF [cB4] (AE.cut 126 ((13, .int .i64 (.ofNat 5)) :: (11, .int .i64 (.ofNat i)) :: LT m y n i 4) (HO false 4))) .normal (told false 0) [11, 1, 53, 54, 55] = some (ysO m y n i) := by kernel_rfl
theorem k_false_4_6 : endsO (codeL Tryz.prog callF loopF [cB4] (AE.cut 126 ((13, .int .i64 (.ofNat 6)) :: (11, .int .i64 (.ofNat i)) :: LT m y n i 4) (HO false 4))) .normal (told false 4) [11, 1, 53, 54, 55] = some (ysO m y n i) := by kernel_rfl
theorem k_false_5_0 : endsO (codeL Tryz.prog callF loopF [cB4] (AE.cut 126 ((13, .int .i64 (.ofNat 0)) :: (11, .int .i64 (.ofNat i)) :: LT m y n i 5) (HO false 5))) .normal (told false 1) [11, 1, 53, 54, 55] = some (ysO m y n i) := by kernel_rfl
theorem k_false_5_1 : endsO (codeL Tryz.prog callF loopF [cB4] (AE.cut 126 ((13, .int .i64 (.ofNat 1)) :: (11, .int .i64 (.ofNat i)) :: LT m y n i 5) (HO false 5))) .normal (told false 2) [11, 1, 53, 54, 55] = some (ysO m y n i) := by kernel_rfl
theorem k_false_5_2 : endsO (codeL Tryz.prog callF loopF [cB4] (AE.cut 126 ((13, .int .i64 (.ofNat 2)) :: (11, .int .i64 (.ofNat i)) :: LT m y n i 5) (HO false 5))) .normal (told false 3) [11, 1, 53, 54, 55] = some (ysO m y n i) := by kernel_rfl
theorem k_false_5_3 : endsO (codeL Tryz.prog callF loopF [cB4] (AE.cut 126 ((13, .int .i64 (.ofNat 3)) :: (11, .int .i64 (.ofNat i)) :: LT m y n i 5) (HO false 5))) .normal (told false 4) [11, 1, 53, 54, 55] = some (ysO m y n i) := by kernel_rfl
theorem k_false_5_4 : endsO (codeL Tryz.prog callF loopF [cB4] (AE.cut 126 ((13, .int .i64 (.ofNat 4)) :: (11, .int .i64 (.ofNat i)) :: LT m y n i 5) (HO false 5))) .normal (told false 5) [11, 1, 53, 54, 55] = some (ysO m y n i) := by kernel_rfl
theorem k_false_5_5 : endsO (codeL Tryz.prog callF loopF [cB4] (AE.cut 126 ((13, .int .i64 (.ofNat 5)) :: (11, .int .i64 (.ofNat i)) :: LT m y n i 5) (HO false 5))) .normal (told false 0) [11, 1, 53, 54, 55] = some (ysO m y n i) := by kernel_rfl
theorem k_false_5_6 : endsO (codeL Tryz.prog callF loopF [cB4] (AE.cut 126 ((13, .int .i64 (.ofNat 6)) :: (11, .int .i64 (.ofNat i)) :: LT m y n i 5) (HO false 5))) .normal (told false 5) [11, 1, 53, 54, 55] = some (ysO m y n i) := by kernel_rfl
theorem k_true_0_0 : endsO (codeL Tryz.prog callF loopF [cB4] (AE.cut 126 ((13, .int .i64 (.ofNat 0)) :: (11, .int .i64 (.ofNat i)) :: LT m y n i 0) (HO true 0))) .normal (told true 1) [11, 1, 53, 54, 55] = some (ysO m y n i) := by kernel_rfl
theorem k_true_0_1 : endsO (codeL Tryz.prog callF loopF [cB4] (AE.cut 126 ((13, .int .i64 (.ofNat 1)) :: (11, .int .i64 (.ofNat i)) :: LT m y n i 0) (HO true 0))) .normal (told true 2) [11, 1, 53, 54, 55] = some (ysO m y n i) := by kernel_rfl
theorem k_true_0_2 : endsO (codeL Tryz.prog callF loopF [cB4] (AE.cut 126 ((13, .int .i64 (.ofNat 2)) :: (11, .int .i64 (.ofNat i)) :: LT m y n i 0) (HO true 0))) .normal (told true 3) [11, 1, 53, 54, 55] = some (ysO m y n i) := by kernel_rfl
theorem k_true_0_3 : endsO (codeL Tryz.prog callF loopF [cB4] (AE.cut 126 ((13, .int .i64 (.ofNat 3)) :: (11, .int .i64 (.ofNat i)) :: LT m y n i 0) (HO true 0))) .normal (told true 4) [11, 1, 53, 54, 55] = some (ysO m y n i) := by kernel_rfl
theorem k_true_0_4 : endsO (codeL Tryz.prog callF loopF [cB4] (AE.cut 126 ((13, .int .i64 (.ofNat 4)) :: (11, .int .i64 (.ofNat i)) :: LT m y n i 0) (HO true 0))) .normal (told true 5) [11, 1, 53, 54, 55] = some (ysO m y n i) := by kernel_rfl
theorem k_true_0_5 : endsO (codeL Tryz.prog callF loopF [cB4] (AE.cut 126 ((13, .int .i64 (.ofNat 5)) :: (11, .int .i64 (.ofNat i)) :: LT m y n i 0) (HO true 0))) .normal (told true 0) [11, 1, 53, 54, 55] = some (ysO m y n i) := by kernel_rfl
theorem k_true_0_6 : endsO (codeL Tryz.prog callF loopF [cB4] (AE.cut 126 ((13, .int .i64 (.ofNat 6)) :: (11, .int .i64 (.ofNat i)) :: LT m y n i 0) (HO true 0))) .normal (told true 0) [11, 1, 53, 54, 55] = some (ysO m y n i) := by kernel_rfl
theorem k_true_1_0 : endsO (codeL Tryz.prog callF loopF [cB4] (AE.cut 126 ((13, .int .i64 (.ofNat 0)) :: (11, .int .i64 (.ofNat i)) :: LT m y n i 1) (HO true 1))) .normal (told true 1) [11, 1, 53, 54, 55] = some (ysO m y n i) := by kernel_rfl
theorem k_true_1_1 : endsO (codeL Tryz.prog callF loopF [cB4] (AE.cut 126 ((13, .int .i64 (.ofNat 1)) :: (11, .int .i64 (.ofNat i)) :: LT m y n i 1) (HO true 1))) .normal (told true 2) [11, 1, 53, 54, 55] = some (ysO m y n i) := by kernel_rfl
theorem k_true_1_2 : endsO (codeL Tryz.prog callF loopF [cB4] (AE.cut 126 ((13, .int .i64 (.ofNat 2)) :: (11, .int .i64 (.ofNat i)) :: LT m y n i 1) (HO true 1))) .normal (told true 3) [11, 1, 53, 54, 55] = some (ysO m y n i) := by kernel_rfl
theorem k_true_1_3 : endsO (codeL Tryz.prog callF loopF [cB4] (AE.cut 126 ((13, .int .i64 (.ofNat 3)) :: (11, .int .i64 (.ofNat i)) :: LT m y n i 1) (HO true 1))) .normal (told true 4) [11, 1, 53, 54, 55] = some (ysO m y n i) := by kernel_rfl
theorem k_true_1_4 : endsO (codeL Tryz.prog callF loopF [cB4] (AE.cut 126 ((13, .int .i64 (.ofNat 4)) :: (11, .int .i64 (.ofNat i)) :: LT m y n i 1) (HO true 1))) .normal (told true 5) [11, 1, 53, 54, 55] = some (ysO m y n i) := by kernel_rfl
theorem k_true_1_5 : endsO (codeL Tryz.prog callF loopF [cB4] (AE.cut 126 ((13, .int .i64 (.ofNat 5)) :: (11, .int .i64 (.ofNat i)) :: LT m y n i 1) (HO true 1))) .normal (told true 0) [11, 1, 53, 54, 55] = some (ysO m y n i) := by kernel_rfl
theorem k_true_1_6 : endsO (codeL Tryz.prog callF loopF [cB4] (AE.cut 126 ((13, .int .i64 (.ofNat 6)) :: (11, .int .i64 (.ofNat i)) :: LT m y n i 1) (HO true 1))) .normal (told true 1) [11, 1, 53, 54, 55] = some (ysO m y n i) := by kernel_rfl
theorem k_true_2_0 : endsO (codeL Tryz.prog callF loopF [cB4] (AE.cut 126 ((13, .int .i64 (.ofNat 0)) :: (11, .int .i64 (.ofNat i)) :: LT m y n i 2) (HO true 2))) .normal (told true 1) [11, 1, 53, 54, 55] = some (ysO m y n i) := by kernel_rfl
theorem k_true_2_1 : endsO (codeL Tryz.prog callF loopF [cB4] (AE.cut 126 ((13, .int .i64 (.ofNat 1)) :: (11, .int .i64 (.ofNat i)) :: LT m y n i 2) (HO true 2))) .normal (told true 2) [11, 1, 53, 54, 55] = some (ysO m y n i) := by kernel_rfl
theorem k_true_2_2 : endsO (codeL Tryz.prog callF loopF [cB4] (AE.cut 126 ((13, .int .i64 (.ofNat 2)) :: (11, .int .i64 (.ofNat i)) :: LT m y n i 2) (HO true 2))) .normal (told true 3) [11, 1, 53, 54, 55] = some (ysO m y n i) := by kernel_rfl
theorem k_true_2_3 : endsO (codeL Tryz.prog callF loopF [cB4] (AE.cut 126 ((13, .int .i64 (.ofNat 3)) :: (11, .int .i64 (.ofNat i)) :: LT m y n i 2) (HO true 2))) .normal (told true 4) [11, 1, 53, 54, 55] = some (ysO m y n i) := by kernel_rfl
theorem k_true_2_4 : endsO (codeL Tryz.prog callF loopF [cB4] (AE.cut 126 ((13, .int .i64 (.ofNat 4)) :: (11, .int .i64 (.ofNat i)) :: LT m y n i 2) (HO true 2))) .normal (told true 5) [11, 1, 53, 54, 55] = some (ysO m y n i) := by kernel_rfl
theorem k_true_2_5 : endsO (codeL Tryz.prog callF loopF [cB4] (AE.cut 126 ((13, .int .i64 (.ofNat 5)) :: (11, .int .i64 (.ofNat i)) :: LT m y n i 2) (HO true 2))) .normal (told true 0) [11, 1, 53, 54, 55] = some (ysO m y n i) := by kernel_rfl
theorem k_true_2_6 : endsO (codeL Tryz.prog callF loopF [cB4] (AE.cut 126 ((13, .int .i64 (.ofNat 6)) :: (11, .int .i64 (.ofNat i)) :: LT m y n i 2) (HO true 2))) .normal (told true 2) [11, 1, 53, 54, 55] = some (ysO m y n i) := by kernel_rfl
theorem k_true_3_0 : endsO (codeL Tryz.prog callF loopF [cB4] (AE.cut 126 ((13, .int .i64 (.ofNat 0)) :: (11, .int .i64 (.ofNat i)) :: LT m y n i 3) (HO true 3))) .normal (told true 1) [11, 1, 53, 54, 55] = some (ysO m y n i) := by kernel_rfl
theorem k_true_3_1 : endsO (codeL Tryz.prog callF loopF [cB4] (AE.cut 126 ((13, .int .i64 (.ofNat 1)) :: (11, .int .i64 (.ofNat i)) :: LT m y n i 3) (HO true 3))) .normal (told true 2) [11, 1, 53, 54, 55] = some (ysO m y n i) := by kernel_rfl
theorem k_true_3_2 : endsO (codeL Tryz.prog callF loopF [cB4] (AE.cut 126 ((13, .int .i64 (.ofNat 2)) :: (11, .int .i64 (.ofNat i)) :: LT m y n i 3) (HO true 3))) .normal (told true 3) [11, 1, 53, 54, 55] = some (ysO m y n i) := by kernel_rfl
theorem k_true_3_3 : endsO (codeL Tryz.prog callF loopF [cB4] (AE.cut 126 ((13, .int .i64 (.ofNat 3)) :: (11, .int .i64 (.ofNat i)) :: LT m y n i 3) (HO true 3))) .normal (told true 4) [11, 1, 53, 54, 55] = some (ysO m y n i) := by kernel_rfl
theorem k_true_3_4 : endsO (codeL Tryz.prog callF loopF [cB4] (AE.cut 126 ((13, .int .i64 (.ofNat 4)) :: (11, .int .i64 (.ofNat i)) :: LT m y n i 3) (HO true 3))) .normal (told true 5) [11, 1, 53, 54, 55] = some (ysO m y n i) := by kernel_rfl
theorem k_true_3_5 : endsO (codeL Tryz.prog callF loopF [cB4] (AE.cut 126 ((13, .int .i64 (.ofNat 5)) :: (11, .int .i64 (.ofNat i)) :: LT m y n i 3) (HO true 3))) .normal (told true 0) [11, 1, 53, 54, 55] = some (ysO m y n i) := by kernel_rfl
theorem k_true_3_6 : endsO (codeL Tryz.prog callF loopF [cB4] (AE.cut 126 ((13, .int .i64 (.ofNat 6)) :: (11, .int .i64 (.ofNat i)) :: LT m y n i 3) (HO true 3))) .normal (told true 3) [11, 1, 53, 54, 55] = some (ysO m y n i) := by kernel_rfl
theorem k_true_4_0 : endsO (codeL Tryz.prog callF loopF [cB4] (AE.cut 126 ((13, .int .i64 (.ofNat 0)) :: (11, .int .i64 (.ofNat i)) :: LT m y n i 4) (HO true 4))) .normal (told true 1) [11, 1, 53, 54, 55] = some (ysO m y n i) := by kernel_rfl
theorem k_true_4_1 : endsO (codeL Tryz.prog callF loopF [cB4] (AE.cut 126 ((13, .int .i64 (.ofNat 1)) :: (11, .int .i64 (.ofNat i)) :: LT m y n i 4) (HO true 4))) .normal (told true 2) [11, 1, 53, 54, 55] = some (ysO m y n i) := by kernel_rfl
theorem k_true_4_2 : endsO (codeL Tryz.prog callF loopF [cB4] (AE.cut 126 ((13, .int .i64 (.ofNat 2)) :: (11, .int .i64 (.ofNat i)) :: LT m y n i 4) (HO true 4))) .normal (told true 3) [11, 1, 53, 54, 55] = some (ysO m y n i) := by kernel_rfl
theorem k_true_4_3 : endsO (codeL Tryz.prog callF loopF [cB4] (AE.cut 126 ((13, .int .i64 (.ofNat 3)) :: (11, .int .i64 (.ofNat i)) :: LT m y n i 4) (HO true 4))) .normal (told true 4) [11, 1, 53, 54, 55] = some (ysO m y n i) := by kernel_rfl
theorem k_true_4_4 : endsO (codeL Tryz.prog callF loopF [cB4] (AE.cut 126 ((13, .int .i64 (.ofNat 4)) :: (11, .int .i64 (.ofNat i)) :: LT m y n i 4) (HO true 4))) .normal (told true 5) [11, 1, 53, 54, 55] = some (ysO m y n i) := by kernel_rfl
theorem k_true_4_5 : endsO (codeL Tryz.prog callF loopF [cB4] (AE.cut 126 ((13, .int .i64 (.ofNat 5)) :: (11, .int .i64 (.ofNat i)) :: LT m y n i 4) (HO true 4))) .normal (told true 0) [11, 1, 53, 54, 55] = some (ysO m y n i) := by kernel_rfl
theorem k_true_4_6 : endsO (codeL Tryz.prog callF loopF [cB4] (AE.cut 126 ((13, .int .i64 (.ofNat 6)) :: (11, .int .i64 (.ofNat i)) :: LT m y n i 4) (HO true 4))) .normal (told true 4) [11, 1, 53, 54, 55] = some (ysO m y n i) := by kernel_rfl
theorem k_true_5_0 : endsO (codeL Tryz.prog callF loopF [cB4] (AE.cut 126 ((13, .int .i64 (.ofNat 0)) :: (11, .int .i64 (.ofNat i)) :: LT m y n i 5) (HO true 5))) .normal (told true 1) [11, 1, 53, 54, 55] = some (ysO m y n i) := by kernel_rfl
theorem k_true_5_1 : endsO (codeL Tryz.prog callF loopF [cB4] (AE.cut 126 ((13, .int .i64 (.ofNat 1)) :: (11, .int .i64 (.ofNat i)) :: LT m y n i 5) (HO true 5))) .normal (told true 2) [11, 1, 53, 54, 55] = some (ysO m y n i) := by kernel_rfl
theorem k_true_5_2 : endsO (codeL Tryz.prog callF loopF [cB4] (AE.cut 126 ((13, .int .i64 (.ofNat 2)) :: (11, .int .i64 (.ofNat i)) :: LT m y n i 5) (HO true 5))) .normal (told true 3) [11, 1, 53, 54, 55] = some (ysO m y n i) := by kernel_rfl
theorem k_true_5_3 : endsO (codeL Tryz.prog callF loopF [cB4] (AE.cut 126 ((13, .int .i64 (.ofNat 3)) :: (11, .int .i64 (.ofNat i)) :: LT m y n i 5) (HO true 5))) .normal (told true 4) [11, 1, 53, 54, 55] = some (ysO m y n i) := by kernel_rfl
theorem k_true_5_4 : endsO (codeL Tryz.prog callF loopF [cB4] (AE.cut 126 ((13, .int .i64 (.ofNat 4)) :: (11, .int .i64 (.ofNat i)) :: LT m y n i 5) (HO true 5))) .normal (told true 5) [11, 1, 53, 54, 55] = some (ysO m y n i) := by kernel_rfl
theorem k_true_5_5 : endsO (codeL Tryz.prog callF loopF [cB4] (AE.cut 126 ((13, .int .i64 (.ofNat 5)) :: (11, .int .i64 (.ofNat i)) :: LT m y n i 5) (HO true 5))) .normal (told true 0) [11, 1, 53, 54, 55] = some (ysO m y n i) := by kernel_rfl
theorem k_true_5_6 : endsO (codeL Tryz.prog callF loopF [cB4] (AE.cut 126 ((13, .int .i64 (.ofNat 6)) :: (11, .int .i64 (.ofNat i)) :: LT m y n i 5) (HO true 5))) .normal (told true 5) [11, 1, 53, 54, 55] = some (ysO m y n i) := by kernel_rfl
theorem kAll (v : Bool) (k q : Nat) (hk : k < 6) (hq : q < 7) : endsO (codeL Tryz.prog callF loopF [cB4] (AE.cut 126 ((13, .int .i64 (.ofNat q)) :: (11, .int .i64 (.ofNat i)) :: LT m y n i k) (HO v k))) .normal (told v (after k q)) [11, 1, 53, 54, 55] = some (ysO m y n i) :=
  match v, k, q, hk, hq with
  | false, 0, 0, _, _ => k_false_0_0 m y n i
  | false, 0, 1, _, _ => k_false_0_1 m y n i
  | false, 0, 2, _, _ => k_false_0_2 m y n i
  | false, 0, 3, _, _ => k_false_0_3 m y n i
  | false, 0, 4, _, _ => k_false_0_4 m y n i
  | false, 0, 5, _, _ => k_false_0_5 m y n i
  | false, 0, 6, _, _ => k_false_0_6 m y n i
  | false, 1, 0, _, _ => k_false_1_0 m y n i
  | false, 1, 1, _, _ => k_false_1_1 m y n i
  | false, 1, 2, _, _ => k_false_1_2 m y n i
  | false, 1, 3, _, _ => k_false_1_3 m y n i
  | false, 1, 4, _, _ => k_false_1_4 m y n i
  | false, 1, 5, _, _ => k_false_1_5 m y n i
  | false, 1, 6, _, _ => k_false_1_6 m y n i
  | false, 2, 0, _, _ => k_false_2_0 m y n i
  | false, 2, 1, _, _ => k_false_2_1 m y n i
  | false, 2, 2, _, _ => k_false_2_2 m y n i
  | false, 2, 3, _, _ => k_false_2_3 m y n i
  | false, 2, 4, _, _ => k_false_2_4 m y n i
  | false, 2, 5, _, _ => k_false_2_5 m y n i
  | false, 2, 6, _, _ => k_false_2_6 m y n i
  | false, 3, 0, _, _ => k_false_3_0 m y n i
  | false, 3, 1, _, _ => k_false_3_1 m y n i
  | false, 3, 2, _, _ => k_false_3_2 m y n i
  | false, 3, 3, _, _ => k_false_3_3 m y n i
  | false, 3, 4, _, _ => k_false_3_4 m y n i
  | false, 3, 5, _, _ => k_false_3_5 m y n i
  | false, 3, 6, _, _ => k_false_3_6 m y n i
  | false, 4, 0, _, _ => k_false_4_0 m y n i
  | false, 4, 1, _, _ => k_false_4_1 m y n i
  | false, 4, 2, _, _ => k_false_4_2 m y n i
  | false, 4, 3, _, _ => k_false_4_3 m y n i
  | false, 4, 4, _, _ => k_false_4_4 m y n i
  | false, 4, 5, _, _ => k_false_4_5 m y n i
  | false, 4, 6, _, _ => k_false_4_6 m y n i
  | false, 5, 0, _, _ => k_false_5_0 m y n i
  | false, 5, 1, _, _ => k_false_5_1 m y n i
  | false, 5, 2, _, _ => k_false_5_2 m y n i
  | false, 5, 3, _, _ => k_false_5_3 m y n i
  | false, 5, 4, _, _ => k_false_5_4 m y n i
  | false, 5, 5, _, _ => k_false_5_5 m y n i
  | false, 5, 6, _, _ => k_false_5_6 m y n i
  | true, 0, 0, _, _ => k_true_0_0 m y n i
  | true, 0, 1, _, _ => k_true_0_1 m y n i
  | true, 0, 2, _, _ => k_true_0_2 m y n i
  | true, 0, 3, _, _ => k_true_0_3 m y n i
  | true, 0, 4, _, _ => k_true_0_4 m y n i
  | true, 0, 5, _, _ => k_true_0_5 m y n i
  | true, 0, 6, _, _ => k_true_0_6 m y n i
  | true, 1, 0, _, _ => k_true_1_0 m y n i
  | true, 1, 1, _, _ => k_true_1_1 m y n i
  | true, 1, 2, _, _ => k_true_1_2 m y n i
  | true, 1, 3, _, _ => k_true_1_3 m y n i
  | true, 1, 4, _, _ => k_true_1_4 m y n i
  | true, 1, 5, _, _ => k_true_1_5 m y n i
  | true, 1, 6, _, _ => k_true_1_6 m y n i
  | true, 2, 0, _, _ => k_true_2_0 m y n i
  | true, 2, 1, _, _ => k_true_2_1 m y n i
  | true, 2, 2, _, _ => k_true_2_2 m y n i
  | true, 2, 3, _, _ => k_true_2_3 m y n i
  | true, 2, 4, _, _ => k_true_2_4 m y n i
  | true, 2, 5, _, _ => k_true_2_5 m y n i
  | true, 2, 6, _, _ => k_true_2_6 m y n i
  | true, 3, 0, _, _ => k_true_3_0 m y n i
  | true, 3, 1, _, _ => k_true_3_1 m y n i
  | true, 3, 2, _, _ => k_true_3_2 m y n i
  | true, 3, 3, _, _ => k_true_3_3 m y n i
  | true, 3, 4, _, _ => k_true_3_4 m y n i
  | true, 3, 5, _, _ => k_true_3_5 m y n i
  | true, 3, 6, _, _ => k_true_3_6 m y n i
  | true, 4, 0, _, _ => k_true_4_0 m y n i
  | true, 4, 1, _, _ => k_true_4_1 m y n i
  | true, 4, 2, _, _ => k_true_4_2 m y n i
  | true, 4, 3, _, _ => k_true_4_3 m y n i
  | true, 4, 4, _, _ => k_true_4_4 m y n i
  | true, 4, 5, _, _ => k_true_4_5 m y n i
  | true, 4, 6, _, _ => k_true_4_6 m y n i
  | true, 5, 0, _, _ => k_true_5_0 m y n i
  | true, 5, 1, _, _ => k_true_5_1 m y n i
  | true, 5, 2, _, _ => k_true_5_2 m y n i
  | true, 5, 3, _, _ => k_true_5_3 m y n i
  | true, 5, 4, _, _ => k_true_5_4 m y n i
  | true, 5, 5, _, _ => k_true_5_5 m y n i
  | true, 5, 6, _, _ => k_true_5_6 m y n i
end Sw
