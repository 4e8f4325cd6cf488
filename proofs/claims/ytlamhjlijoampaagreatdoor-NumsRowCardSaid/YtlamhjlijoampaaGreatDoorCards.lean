/-
  DERIVED. GIVEN WITH THE SEED: THE CARDS: each row of YtlamhjlijoampaaGreatDoorRows.lean that lists a variable, with what it lists TIED to the program's text (the seventh form; the later family's looks); each row that meets fmt, with fmt's text TOLD by the authors' own Lean function (tested against real Go, not proved from fmt's source: count such statements apart). THE CARD IS WHAT COUNTS. Prove the row's statement (the work); the ties are given (YtlamhjlijoampaaGreatDoorTie.lean); close each card by the builder's one call (the guide's Derived/Test/ToyasCard.lean, 'card_holds'). Laid BY PROGRAM, IN A SANDBOX (cutbox-door.mjs). By AI agents, Wed Nov 11 2026. No macro, syntax, notation, axiom, sorry.
-/
import Derived.Test.YtlamhjlijoampaaGreatDoorRows
import GoSem.ClaimSeven
namespace Go.Proofs.YtlamhjlijoampaaGreatDoor
namespace Rows

/-- THE TIED CARD OF 'lexiconlaw03.NumsNumbers'. -/
def numsNumbersCard : Claim7 := { stood := { row := numsNumbersRow, standIns := [], harness := (true, "03fb3cd7281081f688a1026ef8f985599e448646cc1048683ba41c53014050e5"), looks := true }, kinds := [], alts := [], laidByText := true, laidKinds := [.data, .data, .widerDeep, .widerDeep, .data, .data, .data, .data, .data, .data, .sentinel, .sentinel, .pinned, .pinned, .pinned], laidTests := true, laidLooks := .later }
def NumsNumbersCardSaid : Prop := Claim7.holds Tryz.pinned (.plain (OpenSpec.ofChange numsNumbersSpec)) numsNumbersCard

/-- THE TIED CARD OF 'lexiconlaw03.NumsNarrowed'. -/
def numsNarrowedCard : Claim7 := { stood := { row := numsNarrowedRow, standIns := [], harness := (true, "03fb3cd7281081f688a1026ef8f985599e448646cc1048683ba41c53014050e5"), looks := true }, kinds := [], alts := [], laidByText := true, laidKinds := [.data, .data, .widerDeep, .widerDeep, .data, .data, .data, .data, .data, .data, .sentinel, .sentinel, .pinned, .pinned, .pinned], laidTests := true, laidLooks := .later }
def NumsNarrowedCardSaid : Prop := Claim7.holds Tryz.pinned (.plain (OpenSpec.ofChange numsNarrowedSpec)) numsNarrowedCard

/-- THE TIED CARD OF 'lexiconlaw03.NumsRow'. -/
def numsRowCard : Claim7 := { stood := { row := numsRowRow, standIns := [], harness := (true, "03fb3cd7281081f688a1026ef8f985599e448646cc1048683ba41c53014050e5"), looks := true }, kinds := [], alts := [], laidByText := true, laidKinds := [.data, .data, .widerDeep, .widerDeep, .data, .data, .data, .data, .data, .data, .sentinel, .sentinel, .pinned, .pinned, .pinned], laidTests := true, laidLooks := .later }
def NumsRowCardSaid : Prop := Claim7.holds Tryz.pinned (.plain (OpenSpec.ofChange numsRowSpec)) numsRowCard

/-- THE SECOND FORM's CARD OF 'lexiconlaw03.NumsNumbers'. -/
def numsNumbersUptoCard : Claim7 := { stood := { row := numsNumbersUptoRow, standIns := [], harness := (true, "03fb3cd7281081f688a1026ef8f985599e448646cc1048683ba41c53014050e5"), looks := true }, kinds := [], alts := [], laidByText := true, laidKinds := [.data, .data, .widerDeep, .widerDeep, .data, .data, .data, .data, .data, .data, .sentinel, .sentinel, .pinned, .pinned, .pinned], laidTests := true, laidLooks := .later }
def NumsNumbersUptoCardSaid : Prop := Claim7.holds Tryz.pinned (.plain (OpenSpec.upto numsNumbersSpec)) numsNumbersUptoCard

/-- THE SECOND FORM's CARD OF 'lexiconlaw03.NumsNarrowed'. -/
def numsNarrowedUptoCard : Claim7 := { stood := { row := numsNarrowedUptoRow, standIns := [], harness := (true, "03fb3cd7281081f688a1026ef8f985599e448646cc1048683ba41c53014050e5"), looks := true }, kinds := [], alts := [], laidByText := true, laidKinds := [.data, .data, .widerDeep, .widerDeep, .data, .data, .data, .data, .data, .data, .sentinel, .sentinel, .pinned, .pinned, .pinned], laidTests := true, laidLooks := .later }
def NumsNarrowedUptoCardSaid : Prop := Claim7.holds Tryz.pinned (.plain (OpenSpec.upto numsNarrowedSpec)) numsNarrowedUptoCard

/-- THE SECOND FORM's CARD OF 'lexiconlaw03.NumsRow'. -/
def numsRowUptoCard : Claim7 := { stood := { row := numsRowUptoRow, standIns := [], harness := (true, "03fb3cd7281081f688a1026ef8f985599e448646cc1048683ba41c53014050e5"), looks := true }, kinds := [], alts := [], laidByText := true, laidKinds := [.data, .data, .widerDeep, .widerDeep, .data, .data, .data, .data, .data, .data, .sentinel, .sentinel, .pinned, .pinned, .pinned], laidTests := true, laidLooks := .later }
def NumsRowUptoCardSaid : Prop := Claim7.holds Tryz.pinned (.plain (OpenSpec.upto numsRowSpec)) numsRowUptoCard
end Rows
end Go.Proofs.YtlamhjlijoampaaGreatDoor
