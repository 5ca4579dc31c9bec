/- HooksNil's card: the looks at the whole program. Conditions: none. -/
import Derived.Test.YtandggoanbdjkaaGreatDoorCards
import Derived.ProofKit
namespace Go.Proofs.YtandggoanbdjkaaGreatDoor.hn
open Go

theorem goes : false = Rows.hooksNilRow.goesBy Tryz.pinned.checked.prog := by kernel_rfl
end Go.Proofs.YtandggoanbdjkaaGreatDoor.hn
