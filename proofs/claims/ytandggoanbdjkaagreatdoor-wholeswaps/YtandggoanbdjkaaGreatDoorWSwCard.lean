/- WholeSwaps: the given card. Conditions: none. -/
import Derived.Test.YtandggoanbdjkaaGreatDoorWSwRow
import Derived.Test.YtandggoanbdjkaaGreatDoorWSwPlain
import Derived.Test.YtandggoanbdjkaaGreatDoorWSwGoes
namespace Go.Proofs.YtandggoanbdjkaaGreatDoor.sw
open Go.ChangeShapes Go.WideShapes Go.ChangeAt Go.RowKit

set_option maxHeartbeats 100000000 in
/-- ████ THE CARD ████ -/
theorem card : Rows.WholeSwapsCardSaid :=
  Claim7.holds_tied_plain_at .later [] _ _ _ _ said (fun _ h => by cases h) (by as_aux_lemma => kernel_rfl) (fun _ h => by cases h) wholeSwaps_row_tie rfl ⟨rfl, rfl⟩ (by as_aux_lemma => kernel_rfl) rfl plain goes
end Go.Proofs.YtandggoanbdjkaaGreatDoor.sw
