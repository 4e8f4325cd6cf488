/-
  DERIVED. GIVEN WITH THE SEED: THE CARDS: each row of YtmmfmgekjcdadaaDoorRows.lean that lists a variable, with what it lists TIED to the program's text (the seventh form; the later family's looks); each row that meets fmt, with fmt's text TOLD by the authors' own Lean function (tested against real Go, not proved from fmt's source: count such statements apart). THE CARD IS WHAT COUNTS. Prove the row's statement (the work); the ties are given (YtmmfmgekjcdadaaDoorTie.lean); close each card by the builder's one call (the guide's Derived/Test/ToyasCard.lean, 'card_holds'). Laid BY PROGRAM, IN A SANDBOX (cutbox-door.mjs). By AI agents, Wed Nov 11 2026. No macro, syntax, notation, axiom, sorry.
-/
import Derived.Test.YtmmfmgekjcdadaaDoorRows
import GoSem.ClaimSeven
namespace Go.Proofs.YtmmfmgekjcdadaaDoor
namespace Rows

/-- THE TIED CARD OF 'lexiconlaw06.CheckNumbers'. -/
def checkNumbersCard : Claim7 := { stood := { row := checkNumbersRow, standIns := [], harness := (true, "5b7d9666aa4a1b1aca1d9760696622bd1844e46eaaad8eb18f806735672fb461"), looks := true }, kinds := [], alts := [], laidByText := true, laidKinds := [.data, .pinned], laidTests := true, laidLooks := .later }
def CheckNumbersCardSaid : Prop := Claim7.holds Tryd.pinned (.plain (OpenSpec.ofChange checkNumbersSpec)) checkNumbersCard

/-- THE SECOND FORM's CARD OF 'lexiconlaw06.CheckNumbers'. -/
def checkNumbersUptoCard : Claim7 := { stood := { row := checkNumbersUptoRow, standIns := [], harness := (true, "5b7d9666aa4a1b1aca1d9760696622bd1844e46eaaad8eb18f806735672fb461"), looks := true }, kinds := [], alts := [], laidByText := true, laidKinds := [.data, .pinned], laidTests := true, laidLooks := .later }
def CheckNumbersUptoCardSaid : Prop := Claim7.holds Tryd.pinned (.plain (OpenSpec.upto checkNumbersSpec)) checkNumbersUptoCard
end Rows
end Go.Proofs.YtmmfmgekjcdadaaDoor
