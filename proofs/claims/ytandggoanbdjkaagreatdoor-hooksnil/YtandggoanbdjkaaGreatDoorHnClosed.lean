/- The closed facts of HooksNil's row, one by one. Conditions: none. -/
import Derived.Test.YtandggoanbdjkaaGreatDoorRows
import Derived.ProofKit
import Derived.JoinedCond
namespace Go.Proofs.YtandggoanbdjkaaGreatDoor.hn
open Go

set_option maxHeartbeats 100000000 in
theorem closed : joinedFacts Tryz.pinned.checked.prog 3 Tryz.f3 (OpenSpec.ofChange Rows.hooksNilSpec).bare Rows.hooksNilRow = true := by
  unfold joinedFacts
  repeat' with_reducible refine Bool.and_eq_true_iff.mpr ⟨?_, ?_⟩
  all_goals as_aux_lemma => kernel_rfl
end Go.Proofs.YtandggoanbdjkaaGreatDoor.hn
