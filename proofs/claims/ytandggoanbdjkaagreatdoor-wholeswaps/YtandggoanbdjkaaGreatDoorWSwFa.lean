/- WholeSwaps: Fire at the hook told; together. Conditions: none. -/
import Derived.Test.YtandggoanbdjkaaGreatDoorWSwF0
import Derived.Test.YtandggoanbdjkaaGreatDoorWSwF1
import Derived.Test.YtandggoanbdjkaaGreatDoorWSwF2
import Derived.Test.YtandggoanbdjkaaGreatDoorWSwF2t
import Derived.Test.YtandggoanbdjkaaGreatDoorWSwF3
import Derived.Test.YtandggoanbdjkaaGreatDoorWSwF3t
namespace Sw
open Go Go.Proofs Go.RowKit AE
variable (m : Int) (y : AV) (n i : Nat) (x x' : AV)
theorem f0All (v : Bool) (w : Nat) (hw : w < 4) : endsO (FE.obind (FE.opsL Tryz.prog callF (ops 5) ((ops 5).toList.drop 6) (mid26 m y n i 0 (HO v 0) x x' (.int .i64 (.ofNat w)))) (codeL Tryz.prog callF loopF l27)) .normal (told v 0) [1, 53, 54, 55] = some [.int .i64 m, y, .int .i64 (.ofNat n), .int .i64 (.ofNat i)] :=
  match v, w, hw with
  | false, 0, _ => f_0_false_0 m y n i x x'
  | false, 1, _ => f_1_false_0 m y n i x x'
  | false, 2, _ => f_2_false_0 m y n i x x'
  | false, 3, _ => f_3_false_0 m y n i x x'
  | true, 0, _ => f_0_true_0 m y n i x x'
  | true, 1, _ => f_1_true_0 m y n i x x'
  | true, 2, _ => f_2_true_0 m y n i x x'
  | true, 3, _ => f_3_true_0 m y n i x x'
theorem fAll (v : Bool) (k w : Nat) (hk : k < 5) (hw : w < 4) : endsS (FE.obind (FE.opsL Tryz.prog callF (ops 5) ((ops 5).toList.drop 6) (mid26 m y n i (k + 1) (HO v (k + 1)) x x' (.int .i64 (.ofNat w)))) (codeL Tryz.prog callF loopF l27)) .normal (told true (k + 1)) (!v) 8 1 (sigW w) (delW w) [1, 53, 54, 55] = some [.int .i64 m, y, .int .i64 (.ofNat n), .int .i64 (.ofNat i)] :=
  match v, k, w, hk, hw with
  | false, 0, 0, _, _ => f_0_false_1 m y n i x x'
  | false, 0, 1, _, _ => f_1_false_1 m y n i x x'
  | false, 0, 2, _, _ => f_2_false_1 m y n i x x'
  | false, 0, 3, _, _ => f_3_false_1 m y n i x x'
  | false, 1, 0, _, _ => f_0_false_2 m y n i x x'
  | false, 1, 1, _, _ => f_1_false_2 m y n i x x'
  | false, 1, 2, _, _ => f_2_false_2 m y n i x x'
  | false, 1, 3, _, _ => f_3_false_2 m y n i x x'
  | false, 2, 0, _, _ => f_0_false_3 m y n i x x'
  | false, 2, 1, _, _ => f_1_false_3 m y n i x x'
  | false, 2, 2, _, _ => f_2_false_3 m y n i x x'
  | false, 2, 3, _, _ => f_3_false_3 m y n i x x'
  | false, 3, 0, _, _ => f_0_false_4 m y n i x x'
  | false, 3, 1, _, _ => f_1_false_4 m y n i x x'
  | false, 3, 2, _, _ => f_2_false_4 m y n i x x'
  | false, 3, 3, _, _ => f_3_false_4 m y n i x x'
  | false, 4, 0, _, _ => f_0_false_5 m y n i x x'
  | false, 4, 1, _, _ => f_1_false_5 m y n i x x'
  | false, 4, 2, _, _ => f_2_false_5 m y n i x x'
  | false, 4, 3, _, _ => f_3_false_5 m y n i x x'
  | true, 0, 0, _, _ => f_0_true_1 m y n i x x'
  | true, 0, 1, _, _ => f_1_true_1 m y n i x x'
  | true, 0, 2, _, _ => f_2_true_1 m y n i x x'
  | true, 0, 3, _, _ => f_3_true_1 m y n i x x'
  | true, 1, 0, _, _ => f_0_true_2 m y n i x x'
  | true, 1, 1, _, _ => f_1_true_2 m y n i x x'
  | true, 1, 2, _, _ => f_2_true_2 m y n i x x'
  | true, 1, 3, _, _ => f_3_true_2 m y n i x x'
  | true, 2, 0, _, _ => f_0_true_3 m y n i x x'
  | true, 2, 1, _, _ => f_1_true_3 m y n i x x'
  | true, 2, 2, _, _ => f_2_true_3 m y n i x x'
  | true, 2, 3, _, _ => f_3_true_3 m y n i x x'
  | true, 3, 0, _, _ => f_0_true_4 m y n i x x'
  | true, 3, 1, _, _ => f_1_true_4 m y n i x x'
  | true, 3, 2, _, _ => f_2_true_4 m y n i x x'
  | true, 3, 3, _, _ => f_3_true_4 m y n i x x'
  | true, 4, 0, _, _ => f_0_true_5 m y n i x x'
  | true, 4, 1, _, _ => f_1_true_5 m y n i x x'
  | true, 4, 2, _, _ => f_2_true_5 m y n i x x'
  | true, 4, 3, _, _ => f_3_true_5 m y n i x x'
end Sw
