/-
  DERIVED. GIVEN WITH THE SEED: THE CARDS: each row of YtdemnhdoadjhhaaDoorRows.lean that lists a variable, with what it lists TIED to the program's text (the seventh form; the later family's looks); each row that meets fmt, with fmt's text TOLD by the authors' own Lean function (tested against real Go, not proved from fmt's source: count such statements apart). THE CARD IS WHAT COUNTS. Prove the row's statement (the work); the ties are given (YtdemnhdoadjhhaaDoorTie.lean); close each card by the builder's one call (the guide's Derived/Test/ToyasCard.lean, 'card_holds'). Laid BY PROGRAM, IN A SANDBOX (cutbox-door.mjs). By AI agents, Wed Nov 11 2026. No macro, syntax, notation, axiom, sorry.
-/
import Derived.Test.YtdemnhdoadjhhaaDoorRows
import GoSem.ClaimSeven
namespace Go.Proofs.YtdemnhdoadjhhaaDoor
namespace Rows

/-- THE TIED CARD OF 'lexiconlaw06.CheckFirst'. -/
def checkFirstCard : Claim7 := { stood := { row := checkFirstRow, standIns := [], harness := (true, "228a7967b6be4b0ee3344c89536bcb3a44780c1bd3cc2b8fb9f72024c6238d23"), looks := true }, kinds := [], alts := [], laidByText := true, laidKinds := [.data, .pinned], laidTests := true, laidLooks := .later }
def CheckFirstCardSaid : Prop := Claim7.holds Tryd.pinned (.plain (OpenSpec.ofChange checkFirstSpec)) checkFirstCard

/-- THE SECOND FORM's CARD OF 'lexiconlaw06.CheckFirst'. -/
def checkFirstUptoCard : Claim7 := { stood := { row := checkFirstUptoRow, standIns := [], harness := (true, "228a7967b6be4b0ee3344c89536bcb3a44780c1bd3cc2b8fb9f72024c6238d23"), looks := true }, kinds := [], alts := [], laidByText := true, laidKinds := [.data, .pinned], laidTests := true, laidLooks := .later }
def CheckFirstUptoCardSaid : Prop := Claim7.holds Tryd.pinned (.plain (OpenSpec.upto checkFirstSpec)) checkFirstUptoCard
end Rows
end Go.Proofs.YtdemnhdoadjhhaaDoor
