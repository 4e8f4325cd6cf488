/-
  DERIVED. GIVEN WITH THE SEED: THE CARDS: each row of YtdemnhdoadjhhaaGreatDoorRows.lean that lists a variable, with what it lists TIED to the program's text (the seventh form; the later family's looks); each row that meets fmt, with fmt's text TOLD by the authors' own Lean function (tested against real Go, not proved from fmt's source: count such statements apart). THE CARD IS WHAT COUNTS. Prove the row's statement (the work); the ties are given (YtdemnhdoadjhhaaGreatDoorTie.lean); close each card by the builder's one call (the guide's Derived/Test/ToyasCard.lean, 'card_holds'). Laid BY PROGRAM, IN A SANDBOX (cutbox-door.mjs). By AI agents, Wed Nov 11 2026. No macro, syntax, notation, axiom, sorry.
-/
import Derived.Test.YtdemnhdoadjhhaaGreatDoorRows
import GoSem.ClaimSeven
namespace Go.Proofs.YtdemnhdoadjhhaaGreatDoor
namespace Rows

/-- THE TIED CARD OF 'lexiconlaw06.CheckDoes'. -/
def checkDoesCard : Claim7 := { stood := { row := checkDoesRow, standIns := [], harness := (true, "f458aa2b24044597a822768cb704142dcf18e635e8d331e97ed223a5d7dee858"), looks := true }, kinds := [], alts := [], laidByText := true, laidKinds := [.data, .pinned], laidTests := true, laidLooks := .later }
def CheckDoesCardSaid : Prop := Claim7.holds Tryz.pinned (.plain (OpenSpec.ofChange checkDoesSpec)) checkDoesCard

/-- THE TIED CARD OF 'lexiconlaw06.CheckFrees'. -/
def checkFreesCard : Claim7 := { stood := { row := checkFreesRow, standIns := [], harness := (true, "f458aa2b24044597a822768cb704142dcf18e635e8d331e97ed223a5d7dee858"), looks := true }, kinds := [], alts := [], laidByText := true, laidKinds := [.data, .pinned], laidTests := true, laidLooks := .later }
def CheckFreesCardSaid : Prop := Claim7.holds Tryz.pinned (.plain (OpenSpec.ofChange checkFreesSpec)) checkFreesCard

/-- THE TIED CARD OF 'lexiconlaw06.CheckApart'. -/
def checkApartCard : Claim7 := { stood := { row := checkApartRow, standIns := [], harness := (true, "f458aa2b24044597a822768cb704142dcf18e635e8d331e97ed223a5d7dee858"), looks := true }, kinds := [], alts := [], laidByText := true, laidKinds := [.data, .pinned], laidTests := true, laidLooks := .later }
def CheckApartCardSaid : Prop := Claim7.holds Tryz.pinned (.plain (OpenSpec.ofChange checkApartSpec)) checkApartCard

/-- THE TIED CARD OF 'lexiconlaw06.CheckMoved'. -/
def checkMovedCard : Claim7 := { stood := { row := checkMovedRow, standIns := [], harness := (true, "f458aa2b24044597a822768cb704142dcf18e635e8d331e97ed223a5d7dee858"), looks := true }, kinds := [], alts := [], laidByText := true, laidKinds := [.data, .pinned], laidTests := true, laidLooks := .later }
def CheckMovedCardSaid : Prop := Claim7.holds Tryz.pinned (.plain (OpenSpec.ofChange checkMovedSpec)) checkMovedCard

/-- THE TIED CARD OF 'lexiconlaw06.CheckRoom'. -/
def checkRoomCard : Claim7 := { stood := { row := checkRoomRow, standIns := [], harness := (true, "f458aa2b24044597a822768cb704142dcf18e635e8d331e97ed223a5d7dee858"), looks := true }, kinds := [], alts := [], laidByText := true, laidKinds := [.data, .pinned], laidTests := true, laidLooks := .later }
def CheckRoomCardSaid : Prop := Claim7.holds Tryz.pinned (.plain (OpenSpec.ofChange checkRoomSpec)) checkRoomCard

/-- THE SECOND FORM's CARD OF 'lexiconlaw06.CheckDoes'. -/
def checkDoesUptoCard : Claim7 := { stood := { row := checkDoesUptoRow, standIns := [], harness := (true, "f458aa2b24044597a822768cb704142dcf18e635e8d331e97ed223a5d7dee858"), looks := true }, kinds := [], alts := [], laidByText := true, laidKinds := [.data, .pinned], laidTests := true, laidLooks := .later }
def CheckDoesUptoCardSaid : Prop := Claim7.holds Tryz.pinned (.plain (OpenSpec.upto checkDoesSpec)) checkDoesUptoCard

/-- THE SECOND FORM's CARD OF 'lexiconlaw06.CheckFrees'. -/
def checkFreesUptoCard : Claim7 := { stood := { row := checkFreesUptoRow, standIns := [], harness := (true, "f458aa2b24044597a822768cb704142dcf18e635e8d331e97ed223a5d7dee858"), looks := true }, kinds := [], alts := [], laidByText := true, laidKinds := [.data, .pinned], laidTests := true, laidLooks := .later }
def CheckFreesUptoCardSaid : Prop := Claim7.holds Tryz.pinned (.plain (OpenSpec.upto checkFreesSpec)) checkFreesUptoCard

/-- THE SECOND FORM's CARD OF 'lexiconlaw06.CheckApart'. -/
def checkApartUptoCard : Claim7 := { stood := { row := checkApartUptoRow, standIns := [], harness := (true, "f458aa2b24044597a822768cb704142dcf18e635e8d331e97ed223a5d7dee858"), looks := true }, kinds := [], alts := [], laidByText := true, laidKinds := [.data, .pinned], laidTests := true, laidLooks := .later }
def CheckApartUptoCardSaid : Prop := Claim7.holds Tryz.pinned (.plain (OpenSpec.upto checkApartSpec)) checkApartUptoCard

/-- THE SECOND FORM's CARD OF 'lexiconlaw06.CheckMoved'. -/
def checkMovedUptoCard : Claim7 := { stood := { row := checkMovedUptoRow, standIns := [], harness := (true, "f458aa2b24044597a822768cb704142dcf18e635e8d331e97ed223a5d7dee858"), looks := true }, kinds := [], alts := [], laidByText := true, laidKinds := [.data, .pinned], laidTests := true, laidLooks := .later }
def CheckMovedUptoCardSaid : Prop := Claim7.holds Tryz.pinned (.plain (OpenSpec.upto checkMovedSpec)) checkMovedUptoCard

/-- THE SECOND FORM's CARD OF 'lexiconlaw06.CheckRoom'. -/
def checkRoomUptoCard : Claim7 := { stood := { row := checkRoomUptoRow, standIns := [], harness := (true, "f458aa2b24044597a822768cb704142dcf18e635e8d331e97ed223a5d7dee858"), looks := true }, kinds := [], alts := [], laidByText := true, laidKinds := [.data, .pinned], laidTests := true, laidLooks := .later }
def CheckRoomUptoCardSaid : Prop := Claim7.holds Tryz.pinned (.plain (OpenSpec.upto checkRoomSpec)) checkRoomUptoCard
end Rows
end Go.Proofs.YtdemnhdoadjhhaaGreatDoor
