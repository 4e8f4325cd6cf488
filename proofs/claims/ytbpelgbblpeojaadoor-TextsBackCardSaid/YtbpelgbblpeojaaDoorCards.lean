/-
  DERIVED. GIVEN WITH THE SEED: THE CARDS: each row of YtbpelgbblpeojaaDoorRows.lean that lists a variable, with what it lists TIED to the program's text (the seventh form; the later family's looks); each row that meets fmt, with fmt's text TOLD by the authors' own Lean function (tested against real Go, not proved from fmt's source: count such statements apart). THE CARD IS WHAT COUNTS. Prove the row's statement (the work); the ties are given (YtbpelgbblpeojaaDoorTie.lean); close each card by the builder's one call (the guide's Derived/Test/ToyasCard.lean, 'card_holds'). Laid BY PROGRAM, IN A SANDBOX (cutbox-door.mjs). By AI agents, Wed Nov 11 2026. No macro, syntax, notation, axiom, sorry.
-/
import Derived.Test.YtbpelgbblpeojaaDoorRows
import GoSem.ClaimSeven
namespace Go.Proofs.YtbpelgbblpeojaaDoor
namespace Rows

/-- THE TIED CARD OF 'lexiconlaw02.TextsNumbers'. -/
def textsNumbersCard : Claim7 := { stood := { row := textsNumbersRow, standIns := [], harness := (true, "6991035468a05e8a1dcad26216dbd998590677dd00c63aaab249d5436df20709"), looks := false }, kinds := [], alts := [], laidByText := true, laidKinds := [.data, .pinned], laidTests := true, laidLooks := .later }
def TextsNumbersCardSaid : Prop := Claim7.holds Tryd.pinned (.plain (OpenSpec.ofChange textsNumbersSpec)) textsNumbersCard

/-- THE TIED CARD OF 'lexiconlaw02.TextsGood'. -/
def textsGoodCard : Claim7 := { stood := { row := textsGoodRow, standIns := [], harness := (true, "6991035468a05e8a1dcad26216dbd998590677dd00c63aaab249d5436df20709"), looks := false }, kinds := [], alts := [], laidByText := true, laidKinds := [.data, .pinned], laidTests := true, laidLooks := .later }
def TextsGoodCardSaid : Prop := Claim7.holds Tryd.pinned (.plain (OpenSpec.ofChange textsGoodSpec)) textsGoodCard

/-- THE TIED CARD OF 'lexiconlaw02.TextsJoins'. -/
def textsJoinsCard : Claim7 := { stood := { row := textsJoinsRow, standIns := [], harness := (true, "6991035468a05e8a1dcad26216dbd998590677dd00c63aaab249d5436df20709"), looks := false }, kinds := [], alts := [], laidByText := true, laidKinds := [.data, .pinned], laidTests := true, laidLooks := .later }
def TextsJoinsCardSaid : Prop := Claim7.holds Tryd.pinned (.plain (OpenSpec.ofChange textsJoinsSpec)) textsJoinsCard

/-- THE TIED CARD OF 'lexiconlaw02.TextsJoined'. -/
def textsJoinedCard : Claim7 := { stood := { row := textsJoinedRow, standIns := [], harness := (true, "6991035468a05e8a1dcad26216dbd998590677dd00c63aaab249d5436df20709"), looks := false }, kinds := [], alts := [], laidByText := true, laidKinds := [.data, .pinned], laidTests := true, laidLooks := .later }
def TextsJoinedCardSaid : Prop := Claim7.holds Tryd.pinned (.plain (OpenSpec.ofChange textsJoinedSpec)) textsJoinedCard

/-- THE TIED CARD OF 'lexiconlaw02.TextsScopes'. -/
def textsScopesCard : Claim7 := { stood := { row := textsScopesRow, standIns := [], harness := (true, "6991035468a05e8a1dcad26216dbd998590677dd00c63aaab249d5436df20709"), looks := false }, kinds := [], alts := [], laidByText := true, laidKinds := [.data, .pinned], laidTests := true, laidLooks := .later }
def TextsScopesCardSaid : Prop := Claim7.holds Tryd.pinned (.plain (OpenSpec.ofChange textsScopesSpec)) textsScopesCard

/-- THE TIED CARD OF 'lexiconlaw02.TextsCamel'. -/
def textsCamelCard : Claim7 := { stood := { row := textsCamelRow, standIns := [], harness := (true, "6991035468a05e8a1dcad26216dbd998590677dd00c63aaab249d5436df20709"), looks := false }, kinds := [], alts := [], laidByText := true, laidKinds := [.data, .pinned], laidTests := true, laidLooks := .later }
def TextsCamelCardSaid : Prop := Claim7.holds Tryd.pinned (.plain (OpenSpec.ofChange textsCamelSpec)) textsCamelCard

/-- THE TIED CARD OF 'lexiconlaw02.TextsBase'. -/
def textsBaseCard : Claim7 := { stood := { row := textsBaseRow, standIns := [], harness := (true, "6991035468a05e8a1dcad26216dbd998590677dd00c63aaab249d5436df20709"), looks := false }, kinds := [], alts := [], laidByText := true, laidKinds := [.data, .pinned], laidTests := true, laidLooks := .later }
def TextsBaseCardSaid : Prop := Claim7.holds Tryd.pinned (.plain (OpenSpec.ofChange textsBaseSpec)) textsBaseCard

/-- THE TIED CARD OF 'lexiconlaw02.TextsBaseForms'. -/
def textsBaseFormsCard : Claim7 := { stood := { row := textsBaseFormsRow, standIns := [], harness := (true, "6991035468a05e8a1dcad26216dbd998590677dd00c63aaab249d5436df20709"), looks := false }, kinds := [], alts := [], laidByText := true, laidKinds := [.data, .pinned], laidTests := true, laidLooks := .later }
def TextsBaseFormsCardSaid : Prop := Claim7.holds Tryd.pinned (.plain (OpenSpec.ofChange textsBaseFormsSpec)) textsBaseFormsCard

/-- THE TIED CARD OF 'lexiconlaw02.TextsParts'. -/
def textsPartsCard : Claim7 := { stood := { row := textsPartsRow, standIns := [], harness := (true, "6991035468a05e8a1dcad26216dbd998590677dd00c63aaab249d5436df20709"), looks := false }, kinds := [], alts := [], laidByText := true, laidKinds := [.data, .pinned], laidTests := true, laidLooks := .later }
def TextsPartsCardSaid : Prop := Claim7.holds Tryd.pinned (.plain (OpenSpec.ofChange textsPartsSpec)) textsPartsCard

/-- THE TIED CARD OF 'lexiconlaw02.TextsNames'. -/
def textsNamesCard : Claim7 := { stood := { row := textsNamesRow, standIns := [], harness := (true, "6991035468a05e8a1dcad26216dbd998590677dd00c63aaab249d5436df20709"), looks := false }, kinds := [], alts := [], laidByText := true, laidKinds := [.data, .pinned], laidTests := true, laidLooks := .later }
def TextsNamesCardSaid : Prop := Claim7.holds Tryd.pinned (.plain (OpenSpec.ofChange textsNamesSpec)) textsNamesCard

/-- THE TIED CARD OF 'lexiconlaw02.TextsLiterals'. -/
def textsLiteralsCard : Claim7 := { stood := { row := textsLiteralsRow, standIns := [], harness := (true, "6991035468a05e8a1dcad26216dbd998590677dd00c63aaab249d5436df20709"), looks := false }, kinds := [], alts := [], laidByText := true, laidKinds := [.data, .pinned], laidTests := true, laidLooks := .later }
def TextsLiteralsCardSaid : Prop := Claim7.holds Tryd.pinned (.plain (OpenSpec.ofChange textsLiteralsSpec)) textsLiteralsCard

/-- THE TIED CARD OF 'lexiconlaw02.TextsBack'. -/
def textsBackCard : Claim7 := { stood := { row := textsBackRow, standIns := [], harness := (true, "6991035468a05e8a1dcad26216dbd998590677dd00c63aaab249d5436df20709"), looks := false }, kinds := [], alts := [], laidByText := true, laidKinds := [.data, .pinned], laidTests := true, laidLooks := .later }
def TextsBackCardSaid : Prop := Claim7.holds Tryd.pinned (.plain (OpenSpec.ofChange textsBackSpec)) textsBackCard

/-- THE SECOND FORM's CARD OF 'lexiconlaw02.TextsNumbers'. -/
def textsNumbersUptoCard : Claim7 := { stood := { row := textsNumbersUptoRow, standIns := [], harness := (true, "6991035468a05e8a1dcad26216dbd998590677dd00c63aaab249d5436df20709"), looks := false }, kinds := [], alts := [], laidByText := true, laidKinds := [.data, .pinned], laidTests := true, laidLooks := .later }
def TextsNumbersUptoCardSaid : Prop := Claim7.holds Tryd.pinned (.plain (OpenSpec.upto textsNumbersSpec)) textsNumbersUptoCard

/-- THE SECOND FORM's CARD OF 'lexiconlaw02.TextsGood'. -/
def textsGoodUptoCard : Claim7 := { stood := { row := textsGoodUptoRow, standIns := [], harness := (true, "6991035468a05e8a1dcad26216dbd998590677dd00c63aaab249d5436df20709"), looks := false }, kinds := [], alts := [], laidByText := true, laidKinds := [.data, .pinned], laidTests := true, laidLooks := .later }
def TextsGoodUptoCardSaid : Prop := Claim7.holds Tryd.pinned (.plain (OpenSpec.upto textsGoodSpec)) textsGoodUptoCard

/-- THE SECOND FORM's CARD OF 'lexiconlaw02.TextsJoins'. -/
def textsJoinsUptoCard : Claim7 := { stood := { row := textsJoinsUptoRow, standIns := [], harness := (true, "6991035468a05e8a1dcad26216dbd998590677dd00c63aaab249d5436df20709"), looks := false }, kinds := [], alts := [], laidByText := true, laidKinds := [.data, .pinned], laidTests := true, laidLooks := .later }
def TextsJoinsUptoCardSaid : Prop := Claim7.holds Tryd.pinned (.plain (OpenSpec.upto textsJoinsSpec)) textsJoinsUptoCard

/-- THE SECOND FORM's CARD OF 'lexiconlaw02.TextsJoined'. -/
def textsJoinedUptoCard : Claim7 := { stood := { row := textsJoinedUptoRow, standIns := [], harness := (true, "6991035468a05e8a1dcad26216dbd998590677dd00c63aaab249d5436df20709"), looks := false }, kinds := [], alts := [], laidByText := true, laidKinds := [.data, .pinned], laidTests := true, laidLooks := .later }
def TextsJoinedUptoCardSaid : Prop := Claim7.holds Tryd.pinned (.plain (OpenSpec.upto textsJoinedSpec)) textsJoinedUptoCard

/-- THE SECOND FORM's CARD OF 'lexiconlaw02.TextsScopes'. -/
def textsScopesUptoCard : Claim7 := { stood := { row := textsScopesUptoRow, standIns := [], harness := (true, "6991035468a05e8a1dcad26216dbd998590677dd00c63aaab249d5436df20709"), looks := false }, kinds := [], alts := [], laidByText := true, laidKinds := [.data, .pinned], laidTests := true, laidLooks := .later }
def TextsScopesUptoCardSaid : Prop := Claim7.holds Tryd.pinned (.plain (OpenSpec.upto textsScopesSpec)) textsScopesUptoCard

/-- THE SECOND FORM's CARD OF 'lexiconlaw02.TextsCamel'. -/
def textsCamelUptoCard : Claim7 := { stood := { row := textsCamelUptoRow, standIns := [], harness := (true, "6991035468a05e8a1dcad26216dbd998590677dd00c63aaab249d5436df20709"), looks := false }, kinds := [], alts := [], laidByText := true, laidKinds := [.data, .pinned], laidTests := true, laidLooks := .later }
def TextsCamelUptoCardSaid : Prop := Claim7.holds Tryd.pinned (.plain (OpenSpec.upto textsCamelSpec)) textsCamelUptoCard

/-- THE SECOND FORM's CARD OF 'lexiconlaw02.TextsBase'. -/
def textsBaseUptoCard : Claim7 := { stood := { row := textsBaseUptoRow, standIns := [], harness := (true, "6991035468a05e8a1dcad26216dbd998590677dd00c63aaab249d5436df20709"), looks := false }, kinds := [], alts := [], laidByText := true, laidKinds := [.data, .pinned], laidTests := true, laidLooks := .later }
def TextsBaseUptoCardSaid : Prop := Claim7.holds Tryd.pinned (.plain (OpenSpec.upto textsBaseSpec)) textsBaseUptoCard

/-- THE SECOND FORM's CARD OF 'lexiconlaw02.TextsBaseForms'. -/
def textsBaseFormsUptoCard : Claim7 := { stood := { row := textsBaseFormsUptoRow, standIns := [], harness := (true, "6991035468a05e8a1dcad26216dbd998590677dd00c63aaab249d5436df20709"), looks := false }, kinds := [], alts := [], laidByText := true, laidKinds := [.data, .pinned], laidTests := true, laidLooks := .later }
def TextsBaseFormsUptoCardSaid : Prop := Claim7.holds Tryd.pinned (.plain (OpenSpec.upto textsBaseFormsSpec)) textsBaseFormsUptoCard

/-- THE SECOND FORM's CARD OF 'lexiconlaw02.TextsParts'. -/
def textsPartsUptoCard : Claim7 := { stood := { row := textsPartsUptoRow, standIns := [], harness := (true, "6991035468a05e8a1dcad26216dbd998590677dd00c63aaab249d5436df20709"), looks := false }, kinds := [], alts := [], laidByText := true, laidKinds := [.data, .pinned], laidTests := true, laidLooks := .later }
def TextsPartsUptoCardSaid : Prop := Claim7.holds Tryd.pinned (.plain (OpenSpec.upto textsPartsSpec)) textsPartsUptoCard

/-- THE SECOND FORM's CARD OF 'lexiconlaw02.TextsNames'. -/
def textsNamesUptoCard : Claim7 := { stood := { row := textsNamesUptoRow, standIns := [], harness := (true, "6991035468a05e8a1dcad26216dbd998590677dd00c63aaab249d5436df20709"), looks := false }, kinds := [], alts := [], laidByText := true, laidKinds := [.data, .pinned], laidTests := true, laidLooks := .later }
def TextsNamesUptoCardSaid : Prop := Claim7.holds Tryd.pinned (.plain (OpenSpec.upto textsNamesSpec)) textsNamesUptoCard

/-- THE SECOND FORM's CARD OF 'lexiconlaw02.TextsLiterals'. -/
def textsLiteralsUptoCard : Claim7 := { stood := { row := textsLiteralsUptoRow, standIns := [], harness := (true, "6991035468a05e8a1dcad26216dbd998590677dd00c63aaab249d5436df20709"), looks := false }, kinds := [], alts := [], laidByText := true, laidKinds := [.data, .pinned], laidTests := true, laidLooks := .later }
def TextsLiteralsUptoCardSaid : Prop := Claim7.holds Tryd.pinned (.plain (OpenSpec.upto textsLiteralsSpec)) textsLiteralsUptoCard

/-- THE SECOND FORM's CARD OF 'lexiconlaw02.TextsBack'. -/
def textsBackUptoCard : Claim7 := { stood := { row := textsBackUptoRow, standIns := [], harness := (true, "6991035468a05e8a1dcad26216dbd998590677dd00c63aaab249d5436df20709"), looks := false }, kinds := [], alts := [], laidByText := true, laidKinds := [.data, .pinned], laidTests := true, laidLooks := .later }
def TextsBackUptoCardSaid : Prop := Claim7.holds Tryd.pinned (.plain (OpenSpec.upto textsBackSpec)) textsBackUptoCard
end Rows
end Go.Proofs.YtbpelgbblpeojaaDoor
