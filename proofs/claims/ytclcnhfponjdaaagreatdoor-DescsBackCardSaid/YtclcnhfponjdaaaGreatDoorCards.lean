/-
  DERIVED. GIVEN WITH THE SEED: THE CARDS: each row of YtclcnhfponjdaaaGreatDoorRows.lean that lists a variable, with what it lists TIED to the program's text (the seventh form; the later family's looks); each row that meets fmt, with fmt's text TOLD by the authors' own Lean function (tested against real Go, not proved from fmt's source: count such statements apart). THE CARD IS WHAT COUNTS. Prove the row's statement (the work); the ties are given (YtclcnhfponjdaaaGreatDoorTie.lean); close each card by the builder's one call (the guide's Derived/Test/ToyasCard.lean, 'card_holds'). Laid BY PROGRAM, IN A SANDBOX (cutbox-door.mjs). By AI agents, Wed Nov 11 2026. No macro, syntax, notation, axiom, sorry.
-/
import Derived.Test.YtclcnhfponjdaaaGreatDoorRows
import GoSem.ClaimSeven
namespace Go.Proofs.YtclcnhfponjdaaaGreatDoor
namespace Rows

/-- THE TIED CARD OF 'lexiconlaw07.DescsNames'. -/
def descsNamesCard : Claim7 := { stood := { row := descsNamesRow, standIns := [], harness := (true, "806c4b1e80fbb7650004f0839acddef19c70bdaa3bccd39a70c0a5da526dfea7"), looks := true }, kinds := [], alts := [], laidByText := true, laidKinds := [.data, .pinned], laidTests := true, laidLooks := .later }
def DescsNamesCardSaid : Prop := Claim7.holds Tryz.pinned (.plain (OpenSpec.ofChange descsNamesSpec)) descsNamesCard

/-- THE TIED CARD OF 'lexiconlaw07.DescsReads'. -/
def descsReadsCard : Claim7 := { stood := { row := descsReadsRow, standIns := [], harness := (true, "806c4b1e80fbb7650004f0839acddef19c70bdaa3bccd39a70c0a5da526dfea7"), looks := true }, kinds := [], alts := [], laidByText := true, laidKinds := [.data, .pinned], laidTests := true, laidLooks := .later }
def DescsReadsCardSaid : Prop := Claim7.holds Tryz.pinned (.plain (OpenSpec.ofChange descsReadsSpec)) descsReadsCard

/-- THE TIED CARD OF 'lexiconlaw07.DescsForm'. -/
def descsFormCard : Claim7 := { stood := { row := descsFormRow, standIns := [], harness := (true, "806c4b1e80fbb7650004f0839acddef19c70bdaa3bccd39a70c0a5da526dfea7"), looks := true }, kinds := [], alts := [], laidByText := true, laidKinds := [.data, .pinned], laidTests := true, laidLooks := .later }
def DescsFormCardSaid : Prop := Claim7.holds Tryz.pinned (.plain (OpenSpec.ofChange descsFormSpec)) descsFormCard

/-- THE TIED CARD OF 'lexiconlaw07.DescsWrites'. -/
def descsWritesCard : Claim7 := { stood := { row := descsWritesRow, standIns := [], harness := (true, "806c4b1e80fbb7650004f0839acddef19c70bdaa3bccd39a70c0a5da526dfea7"), looks := true }, kinds := [], alts := [], laidByText := true, laidKinds := [.data, .pinned], laidTests := true, laidLooks := .later }
def DescsWritesCardSaid : Prop := Claim7.holds Tryz.pinned (.plain (OpenSpec.ofChange descsWritesSpec)) descsWritesCard

/-- THE TIED CARD OF 'lexiconlaw07.DescsBack'. -/
def descsBackCard : Claim7 := { stood := { row := descsBackRow, standIns := [], harness := (true, "806c4b1e80fbb7650004f0839acddef19c70bdaa3bccd39a70c0a5da526dfea7"), looks := true }, kinds := [], alts := [], laidByText := true, laidKinds := [.data, .pinned], laidTests := true, laidLooks := .later }
def DescsBackCardSaid : Prop := Claim7.holds Tryz.pinned (.plain (OpenSpec.ofChange descsBackSpec)) descsBackCard

/-- THE SECOND FORM's CARD OF 'lexiconlaw07.DescsNames'. -/
def descsNamesUptoCard : Claim7 := { stood := { row := descsNamesUptoRow, standIns := [], harness := (true, "806c4b1e80fbb7650004f0839acddef19c70bdaa3bccd39a70c0a5da526dfea7"), looks := true }, kinds := [], alts := [], laidByText := true, laidKinds := [.data, .pinned], laidTests := true, laidLooks := .later }
def DescsNamesUptoCardSaid : Prop := Claim7.holds Tryz.pinned (.plain (OpenSpec.upto descsNamesSpec)) descsNamesUptoCard

/-- THE SECOND FORM's CARD OF 'lexiconlaw07.DescsReads'. -/
def descsReadsUptoCard : Claim7 := { stood := { row := descsReadsUptoRow, standIns := [], harness := (true, "806c4b1e80fbb7650004f0839acddef19c70bdaa3bccd39a70c0a5da526dfea7"), looks := true }, kinds := [], alts := [], laidByText := true, laidKinds := [.data, .pinned], laidTests := true, laidLooks := .later }
def DescsReadsUptoCardSaid : Prop := Claim7.holds Tryz.pinned (.plain (OpenSpec.upto descsReadsSpec)) descsReadsUptoCard

/-- THE SECOND FORM's CARD OF 'lexiconlaw07.DescsForm'. -/
def descsFormUptoCard : Claim7 := { stood := { row := descsFormUptoRow, standIns := [], harness := (true, "806c4b1e80fbb7650004f0839acddef19c70bdaa3bccd39a70c0a5da526dfea7"), looks := true }, kinds := [], alts := [], laidByText := true, laidKinds := [.data, .pinned], laidTests := true, laidLooks := .later }
def DescsFormUptoCardSaid : Prop := Claim7.holds Tryz.pinned (.plain (OpenSpec.upto descsFormSpec)) descsFormUptoCard

/-- THE SECOND FORM's CARD OF 'lexiconlaw07.DescsWrites'. -/
def descsWritesUptoCard : Claim7 := { stood := { row := descsWritesUptoRow, standIns := [], harness := (true, "806c4b1e80fbb7650004f0839acddef19c70bdaa3bccd39a70c0a5da526dfea7"), looks := true }, kinds := [], alts := [], laidByText := true, laidKinds := [.data, .pinned], laidTests := true, laidLooks := .later }
def DescsWritesUptoCardSaid : Prop := Claim7.holds Tryz.pinned (.plain (OpenSpec.upto descsWritesSpec)) descsWritesUptoCard

/-- THE SECOND FORM's CARD OF 'lexiconlaw07.DescsBack'. -/
def descsBackUptoCard : Claim7 := { stood := { row := descsBackUptoRow, standIns := [], harness := (true, "806c4b1e80fbb7650004f0839acddef19c70bdaa3bccd39a70c0a5da526dfea7"), looks := true }, kinds := [], alts := [], laidByText := true, laidKinds := [.data, .pinned], laidTests := true, laidLooks := .later }
def DescsBackUptoCardSaid : Prop := Claim7.holds Tryz.pinned (.plain (OpenSpec.upto descsBackSpec)) descsBackUptoCard
end Rows
end Go.Proofs.YtclcnhfponjdaaaGreatDoor
