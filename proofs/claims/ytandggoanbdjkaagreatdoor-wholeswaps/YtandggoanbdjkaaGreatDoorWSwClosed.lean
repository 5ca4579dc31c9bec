/- The closed facts of WholeSwaps's row, one by one. Conditions: none. -/
import Derived.Test.YtandggoanbdjkaaGreatDoorRows
import Derived.ProofKit
import Derived.JoinedCond
namespace Go.Proofs.YtandggoanbdjkaaGreatDoor.sw
open Go

set_option maxHeartbeats 100000000 in
theorem closed : joinedFacts Tryz.pinned.checked.prog 4 Tryz.f4 (OpenSpec.ofChange Rows.wholeSwapsSpec).bare Rows.wholeSwapsRow = true := by
  unfold joinedFacts
  repeat' with_reducible refine Bool.and_eq_true_iff.mpr ⟨?_, ?_⟩
  all_goals as_aux_lemma => kernel_rfl
end Go.Proofs.YtandggoanbdjkaaGreatDoor.sw
