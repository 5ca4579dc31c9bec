/- WholeSwaps's card: the looks at the whole program. Conditions: none. -/
import Derived.Test.YtandggoanbdjkaaGreatDoorCards
import Derived.ProofKit
namespace Go.Proofs.YtandggoanbdjkaaGreatDoor.sw
open Go

theorem goes : false = Rows.wholeSwapsRow.goesBy Tryz.pinned.checked.prog := by kernel_rfl
end Go.Proofs.YtandggoanbdjkaaGreatDoor.sw
