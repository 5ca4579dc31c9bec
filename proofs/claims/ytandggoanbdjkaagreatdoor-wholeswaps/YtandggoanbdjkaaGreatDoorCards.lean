/-
  DERIVED. GIVEN WITH THE SEED: THE CARDS: each row of YtandggoanbdjkaaGreatDoorRows.lean that lists a variable, with what it lists TIED to the program's text (the seventh form; the later family's looks); each row that meets fmt, with fmt's text TOLD by the authors' own Lean function (tested against real Go, not proved from fmt's source: count such statements apart). THE CARD IS WHAT COUNTS. Prove the row's statement (the work); the ties are given (YtandggoanbdjkaaGreatDoorTie.lean); close each card by the builder's one call (the guide's Derived/Test/ToyasCard.lean, 'card_holds'). Laid BY PROGRAM, IN A SANDBOX (cutbox-door.mjs). By AI agents, Wed Nov 11 2026. No macro, syntax, notation, axiom, sorry.
-/
import Derived.Test.YtandggoanbdjkaaGreatDoorRows
import GoSem.ClaimSeven
namespace Go.Proofs.YtandggoanbdjkaaGreatDoor
namespace Rows

/-- THE TIED CARD OF 'posternlaw25.HooksNil'. -/
def hooksNilCard : Claim7 := { stood := { row := hooksNilRow, standIns := [], harness := (true, "ba118299cfa4d4afc563fcd6854fdbe503bc4e6341d8a983353d4ff0627240f3"), looks := true }, kinds := [], alts := [], laidByText := true, laidKinds := [.data, .data], laidTests := true, laidLooks := .later }
def HooksNilCardSaid : Prop := Claim7.holds Tryz.pinned (.plain (OpenSpec.ofChange hooksNilSpec)) hooksNilCard

/-- THE TIED CARD OF 'posterntop.WholeSwaps'. -/
def wholeSwapsCard : Claim7 := { stood := { row := wholeSwapsRow, standIns := [], harness := (true, "ba118299cfa4d4afc563fcd6854fdbe503bc4e6341d8a983353d4ff0627240f3"), looks := true }, kinds := [], alts := [], laidByText := true, laidKinds := [.data, .data], laidTests := true, laidLooks := .later }
def WholeSwapsCardSaid : Prop := Claim7.holds Tryz.pinned (.plain (OpenSpec.ofChange wholeSwapsSpec)) wholeSwapsCard

/-- THE SECOND FORM's CARD OF 'posternlaw25.HooksNil'. -/
def hooksNilUptoCard : Claim7 := { stood := { row := hooksNilUptoRow, standIns := [], harness := (true, "ba118299cfa4d4afc563fcd6854fdbe503bc4e6341d8a983353d4ff0627240f3"), looks := true }, kinds := [], alts := [], laidByText := true, laidKinds := [.data, .data], laidTests := true, laidLooks := .later }
def HooksNilUptoCardSaid : Prop := Claim7.holds Tryz.pinned (.plain (OpenSpec.upto hooksNilSpec)) hooksNilUptoCard

/-- THE SECOND FORM's CARD OF 'posterntop.WholeSwaps'. -/
def wholeSwapsUptoCard : Claim7 := { stood := { row := wholeSwapsUptoRow, standIns := [], harness := (true, "ba118299cfa4d4afc563fcd6854fdbe503bc4e6341d8a983353d4ff0627240f3"), looks := true }, kinds := [], alts := [], laidByText := true, laidKinds := [.data, .data], laidTests := true, laidLooks := .later }
def WholeSwapsUptoCardSaid : Prop := Claim7.holds Tryz.pinned (.plain (OpenSpec.upto wholeSwapsSpec)) wholeSwapsUptoCard
end Rows
end Go.Proofs.YtandggoanbdjkaaGreatDoor
