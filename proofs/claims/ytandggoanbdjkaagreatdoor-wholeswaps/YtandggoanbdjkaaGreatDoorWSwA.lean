/- WholeSwaps: the first piece: five programs are loaded. Conditions: none. -/
import Derived.Test.YtandggoanbdjkaaGreatDoorWSwQ
namespace Sw
open Go Go.Proofs Go.RowKit AE
theorem A_runs (m : Int) (off n c : Nat) : endsS (codeL Tryz.prog callF loopF lA (sA m (.slice (some (0, off)) n c true))) .normal (told false 0) false 8 1 sigA 0 [1, 53, 54, 55] = some [.int .i64 m, .slice (some (0, off)) n c true, .int .i64 (.ofNat n), .int .i64 (.ofNat 0)] := by kernel_rfl
theorem A_nil (m : Int) : endsS (codeL Tryz.prog callF loopF lA (sA m (.slice none 0 0 true))) .normal (told false 0) false 8 1 sigA 0 [1, 53, 54, 55] = some [.int .i64 m, .slice none 0 0 true, .int .i64 (.ofNat 0), .int .i64 (.ofNat 0)] := by kernel_rfl
theorem A_mt (m : Int) : endsS (codeL Tryz.prog callF loopF lA (sA m .mt)) .normal (told false 0) false 8 1 sigA 0 [1, 54, 55] = some [.int .i64 m, .int .i64 (.ofNat 0), .int .i64 (.ofNat 0)] := by kernel_rfl
end Sw
