/-
  NARROWER THAN 'FOR EVERY INPUT', by the rows' own cells (each row's printed sentence says how): TextsNumbers: laid · TextsGood: laid · TextsJoins: laid · TextsJoined: laid · TextsScopes: laid · TextsCamel: laid · TextsBase: laid · TextsBaseForms: laid · TextsParts: laid · TextsNames: laid · TextsLiterals: laid · TextsBack: laid.
  DERIVED. THE GIVEN ROWS OF THIS SEAT. 12 by the template 'for every input the law returns true; each argument reads behind the call as it read before'; 0 by the template 'total and deterministic' (their statements: YtbpelgbblpeojaaDoorTotals.lean).
  GIVEN WITH THE SEED: the statements are not yours to turn. If you find one false, say at which input.
  Laid BY PROGRAM, IN A SANDBOX (cutbox-rows.mjs): the forced cells as the released guide's own fill.sh prints them over the translation 4da5a91cd45a4a7d… (all of the seat's roots in one cut). By AI agents, Wed Nov 11 2026. No macro, syntax, notation, axiom, sorry.
-/
import Derived.Test.YtbpelgbblpeojaaDoorChecked
import GoSem.PinnedTables
import GoSem.Claim
import GoSem.ClaimJoined
import GoSem.ClaimMapViews
import Derived.JoinedTies
import Derived.KernelRfl
namespace Go.Proofs.YtbpelgbblpeojaaDoor
/- THE CELL 'sum', in the pinned program and in every row, IS THE sha256 OF THE DUMP (.gsa) THAT YtbpelgbblpeojaaDoorProg.lean LOADS. Nothing in Lean hashes anything: it is a label: what it is worth is what the hold of that sum in a sandbox is worth. -/
noncomputable def Tryd.pinned : Pinned := { name := "ytbpelgbblpeojaadoor", sum := "4da5a91cd45a4a7de5328caf7b9d5887b5407c42ef28c23db2aee61c763fd373", checked := Tryd.checked }
namespace Rows
def none {H : Type} : Left H := { results := [], args := [] }

/- WHAT THE LISTED PACKAGE-LEVEL VARIABLES READ AS WHEN THE CALL BEGINS. Each datum BY PROGRAM (the guide's laid-datum.mjs) off the statement by which the dump's own 'gosem.cut.vars' lays the variable. In a bare row this is a premise. The card (YtbpelgbblpeojaaDoorCards.lean) ties it to the program's text. -/
def laid_unicode_utf8_acceptRanges {H : Type} : DataW H := .agg [.agg [.lit (.int .u8 128), .lit (.int .u8 191)], .agg [.lit (.int .u8 160), .lit (.int .u8 191)], .agg [.lit (.int .u8 128), .lit (.int .u8 159)], .agg [.lit (.int .u8 144), .lit (.int .u8 191)], .agg [.lit (.int .u8 128), .lit (.int .u8 143)], .agg [.lit (.int .u8 0), .lit (.int .u8 0)], .agg [.lit (.int .u8 0), .lit (.int .u8 0)], .agg [.lit (.int .u8 0), .lit (.int .u8 0)], .agg [.lit (.int .u8 0), .lit (.int .u8 0)], .agg [.lit (.int .u8 0), .lit (.int .u8 0)], .agg [.lit (.int .u8 0), .lit (.int .u8 0)], .agg [.lit (.int .u8 0), .lit (.int .u8 0)], .agg [.lit (.int .u8 0), .lit (.int .u8 0)], .agg [.lit (.int .u8 0), .lit (.int .u8 0)], .agg [.lit (.int .u8 0), .lit (.int .u8 0)], .agg [.lit (.int .u8 0), .lit (.int .u8 0)]]
/-- One of Go's own tables, pinned by name: the form's constant. -/
def laid_unicode_utf8_first : DataW Unit := Go.Pinned.utf8First

/-- 'lexiconlaw02.TextsNumbers': WHATEVER THE INPUT: true; the input reads as it did. -/
def textsNumbersSpec : ChangeSpec := { name := "textsNumbers", fn := fun _ => fun
  | [] => { results := [.lit (.bool true)], args := [] }
  | _ => none }
def textsNumbersRow : OpenClaim := { program := "ytbpelgbblpeojaadoor", sum := "4da5a91cd45a4a7de5328caf7b9d5887b5407c42ef28c23db2aee61c763fd373", func := "lexicon/lexiconlaw02.TextsNumbers", spec := "textsNumbers", inPlace := ["internal/abi.NoEscape", "internal/bytealg.MakeNoZero"], named := ["unicode/utf8.first", "unicode/utf8.acceptRanges"], apart := false, laid := [("unicode/utf8.acceptRanges", laid_unicode_utf8_acceptRanges), ("unicode/utf8.first", laid_unicode_utf8_first)] }
def TextsNumbersSaid : Prop := textsNumbersRow.holds Tryd.pinned (OpenSpec.ofChange textsNumbersSpec)

/-- ITS FALSE NEIGHBOUR: 'it returns false'. Refute it at one input. -/
def textsNumbersWrong : ChangeSpec := { name := "textsNumbers", fn := fun _ => fun
  | [] => { results := [.lit (.bool false)], args := [] }
  | _ => none }
def TextsNumbersWrongFalsely : Prop := textsNumbersRow.holds Tryd.pinned (OpenSpec.ofChange textsNumbersWrong)

/-- 'lexiconlaw02.TextsGood': WHATEVER THE INPUT: true; the input reads as it did. -/
def textsGoodSpec : ChangeSpec := { name := "textsGood", fn := fun _ => fun
  | [d1, d2] => { results := [.lit (.bool true)], args := [d1, d2] }
  | _ => none }
def textsGoodRow : OpenClaim := { program := "ytbpelgbblpeojaadoor", sum := "4da5a91cd45a4a7de5328caf7b9d5887b5407c42ef28c23db2aee61c763fd373", func := "lexicon/lexiconlaw02.TextsGood", spec := "textsGood", inPlace := ["internal/abi.NoEscape", "internal/bytealg.MakeNoZero"], named := ["unicode/utf8.first", "unicode/utf8.acceptRanges"], apart := false, laid := [("unicode/utf8.acceptRanges", laid_unicode_utf8_acceptRanges), ("unicode/utf8.first", laid_unicode_utf8_first)] }
def TextsGoodSaid : Prop := textsGoodRow.holds Tryd.pinned (OpenSpec.ofChange textsGoodSpec)

/-- ITS FALSE NEIGHBOUR: 'it returns false'. Refute it at one input. -/
def textsGoodWrong : ChangeSpec := { name := "textsGood", fn := fun _ => fun
  | [d1, d2] => { results := [.lit (.bool false)], args := [d1, d2] }
  | _ => none }
def TextsGoodWrongFalsely : Prop := textsGoodRow.holds Tryd.pinned (OpenSpec.ofChange textsGoodWrong)

/-- 'lexiconlaw02.TextsJoins': WHATEVER THE INPUT: true; the input reads as it did. -/
def textsJoinsSpec : ChangeSpec := { name := "textsJoins", fn := fun _ => fun
  | [d1, d2] => { results := [.lit (.bool true)], args := [d1, d2] }
  | _ => none }
def textsJoinsRow : OpenClaim := { program := "ytbpelgbblpeojaadoor", sum := "4da5a91cd45a4a7de5328caf7b9d5887b5407c42ef28c23db2aee61c763fd373", func := "lexicon/lexiconlaw02.TextsJoins", spec := "textsJoins", inPlace := ["internal/abi.NoEscape", "internal/bytealg.MakeNoZero"], named := ["unicode/utf8.first", "unicode/utf8.acceptRanges"], apart := false, laid := [("unicode/utf8.acceptRanges", laid_unicode_utf8_acceptRanges), ("unicode/utf8.first", laid_unicode_utf8_first)] }
def TextsJoinsSaid : Prop := textsJoinsRow.holds Tryd.pinned (OpenSpec.ofChange textsJoinsSpec)

/-- ITS FALSE NEIGHBOUR: 'it returns false'. Refute it at one input. -/
def textsJoinsWrong : ChangeSpec := { name := "textsJoins", fn := fun _ => fun
  | [d1, d2] => { results := [.lit (.bool false)], args := [d1, d2] }
  | _ => none }
def TextsJoinsWrongFalsely : Prop := textsJoinsRow.holds Tryd.pinned (OpenSpec.ofChange textsJoinsWrong)

/-- 'lexiconlaw02.TextsJoined': WHATEVER THE INPUT: true; the input reads as it did. -/
def textsJoinedSpec : ChangeSpec := { name := "textsJoined", fn := fun _ => fun
  | [d1, d2, d3] => { results := [.lit (.bool true)], args := [d1, d2, d3] }
  | _ => none }
def textsJoinedRow : OpenClaim := { program := "ytbpelgbblpeojaadoor", sum := "4da5a91cd45a4a7de5328caf7b9d5887b5407c42ef28c23db2aee61c763fd373", func := "lexicon/lexiconlaw02.TextsJoined", spec := "textsJoined", inPlace := ["internal/abi.NoEscape", "internal/bytealg.MakeNoZero"], named := ["unicode/utf8.first", "unicode/utf8.acceptRanges"], apart := false, laid := [("unicode/utf8.acceptRanges", laid_unicode_utf8_acceptRanges), ("unicode/utf8.first", laid_unicode_utf8_first)] }
def TextsJoinedSaid : Prop := textsJoinedRow.holds Tryd.pinned (OpenSpec.ofChange textsJoinedSpec)

/-- ITS FALSE NEIGHBOUR: 'it returns false'. Refute it at one input. -/
def textsJoinedWrong : ChangeSpec := { name := "textsJoined", fn := fun _ => fun
  | [d1, d2, d3] => { results := [.lit (.bool false)], args := [d1, d2, d3] }
  | _ => none }
def TextsJoinedWrongFalsely : Prop := textsJoinedRow.holds Tryd.pinned (OpenSpec.ofChange textsJoinedWrong)

/-- 'lexiconlaw02.TextsScopes': WHATEVER THE INPUT: true; the input reads as it did. -/
def textsScopesSpec : ChangeSpec := { name := "textsScopes", fn := fun _ => fun
  | [d1, d2, d3] => { results := [.lit (.bool true)], args := [d1, d2, d3] }
  | _ => none }
def textsScopesRow : OpenClaim := { program := "ytbpelgbblpeojaadoor", sum := "4da5a91cd45a4a7de5328caf7b9d5887b5407c42ef28c23db2aee61c763fd373", func := "lexicon/lexiconlaw02.TextsScopes", spec := "textsScopes", inPlace := ["internal/abi.NoEscape", "internal/bytealg.MakeNoZero"], unfollowed := true, recurses := true, named := ["unicode/utf8.first", "unicode/utf8.acceptRanges"], apart := false, laid := [("unicode/utf8.acceptRanges", laid_unicode_utf8_acceptRanges), ("unicode/utf8.first", laid_unicode_utf8_first)] }
def TextsScopesSaid : Prop := textsScopesRow.holds Tryd.pinned (OpenSpec.ofChange textsScopesSpec)

/-- ITS FALSE NEIGHBOUR: 'it returns false'. Refute it at one input. -/
def textsScopesWrong : ChangeSpec := { name := "textsScopes", fn := fun _ => fun
  | [d1, d2, d3] => { results := [.lit (.bool false)], args := [d1, d2, d3] }
  | _ => none }
def TextsScopesWrongFalsely : Prop := textsScopesRow.holds Tryd.pinned (OpenSpec.ofChange textsScopesWrong)

/-- 'lexiconlaw02.TextsCamel': WHATEVER THE INPUT: true; the input reads as it did. -/
def textsCamelSpec : ChangeSpec := { name := "textsCamel", fn := fun _ => fun
  | [d1, d2] => { results := [.lit (.bool true)], args := [d1, d2] }
  | _ => none }
def textsCamelRow : OpenClaim := { program := "ytbpelgbblpeojaadoor", sum := "4da5a91cd45a4a7de5328caf7b9d5887b5407c42ef28c23db2aee61c763fd373", func := "lexicon/lexiconlaw02.TextsCamel", spec := "textsCamel", inPlace := ["internal/abi.NoEscape", "internal/bytealg.MakeNoZero"], named := ["unicode/utf8.first", "unicode/utf8.acceptRanges"], apart := false, laid := [("unicode/utf8.acceptRanges", laid_unicode_utf8_acceptRanges), ("unicode/utf8.first", laid_unicode_utf8_first)] }
def TextsCamelSaid : Prop := textsCamelRow.holds Tryd.pinned (OpenSpec.ofChange textsCamelSpec)

/-- ITS FALSE NEIGHBOUR: 'it returns false'. Refute it at one input. -/
def textsCamelWrong : ChangeSpec := { name := "textsCamel", fn := fun _ => fun
  | [d1, d2] => { results := [.lit (.bool false)], args := [d1, d2] }
  | _ => none }
def TextsCamelWrongFalsely : Prop := textsCamelRow.holds Tryd.pinned (OpenSpec.ofChange textsCamelWrong)

/-- 'lexiconlaw02.TextsBase': WHATEVER THE INPUT: true; the input reads as it did. -/
def textsBaseSpec : ChangeSpec := { name := "textsBase", fn := fun _ => fun
  | [d] => { results := [.lit (.bool true)], args := [d] }
  | _ => none }
def textsBaseRow : OpenClaim := { program := "ytbpelgbblpeojaadoor", sum := "4da5a91cd45a4a7de5328caf7b9d5887b5407c42ef28c23db2aee61c763fd373", func := "lexicon/lexiconlaw02.TextsBase", spec := "textsBase", inPlace := ["internal/abi.NoEscape", "internal/bytealg.MakeNoZero"], named := ["unicode/utf8.first", "unicode/utf8.acceptRanges"], apart := false, laid := [("unicode/utf8.acceptRanges", laid_unicode_utf8_acceptRanges), ("unicode/utf8.first", laid_unicode_utf8_first)] }
def TextsBaseSaid : Prop := textsBaseRow.holds Tryd.pinned (OpenSpec.ofChange textsBaseSpec)

/-- ITS FALSE NEIGHBOUR: 'it returns false'. Refute it at one input. -/
def textsBaseWrong : ChangeSpec := { name := "textsBase", fn := fun _ => fun
  | [d] => { results := [.lit (.bool false)], args := [d] }
  | _ => none }
def TextsBaseWrongFalsely : Prop := textsBaseRow.holds Tryd.pinned (OpenSpec.ofChange textsBaseWrong)

/-- 'lexiconlaw02.TextsBaseForms': WHATEVER THE INPUT: true; the input reads as it did. -/
def textsBaseFormsSpec : ChangeSpec := { name := "textsBaseForms", fn := fun _ => fun
  | [d1, d2] => { results := [.lit (.bool true)], args := [d1, d2] }
  | _ => none }
def textsBaseFormsRow : OpenClaim := { program := "ytbpelgbblpeojaadoor", sum := "4da5a91cd45a4a7de5328caf7b9d5887b5407c42ef28c23db2aee61c763fd373", func := "lexicon/lexiconlaw02.TextsBaseForms", spec := "textsBaseForms", inPlace := ["internal/abi.NoEscape", "internal/bytealg.MakeNoZero"], named := ["unicode/utf8.first", "unicode/utf8.acceptRanges"], apart := false, laid := [("unicode/utf8.acceptRanges", laid_unicode_utf8_acceptRanges), ("unicode/utf8.first", laid_unicode_utf8_first)] }
def TextsBaseFormsSaid : Prop := textsBaseFormsRow.holds Tryd.pinned (OpenSpec.ofChange textsBaseFormsSpec)

/-- ITS FALSE NEIGHBOUR: 'it returns false'. Refute it at one input. -/
def textsBaseFormsWrong : ChangeSpec := { name := "textsBaseForms", fn := fun _ => fun
  | [d1, d2] => { results := [.lit (.bool false)], args := [d1, d2] }
  | _ => none }
def TextsBaseFormsWrongFalsely : Prop := textsBaseFormsRow.holds Tryd.pinned (OpenSpec.ofChange textsBaseFormsWrong)

/-- 'lexiconlaw02.TextsParts': WHATEVER THE INPUT: true; the input reads as it did. -/
def textsPartsSpec : ChangeSpec := { name := "textsParts", fn := fun _ => fun
  | [d] => { results := [.lit (.bool true)], args := [d] }
  | _ => none }
def textsPartsRow : OpenClaim := { program := "ytbpelgbblpeojaadoor", sum := "4da5a91cd45a4a7de5328caf7b9d5887b5407c42ef28c23db2aee61c763fd373", func := "lexicon/lexiconlaw02.TextsParts", spec := "textsParts", inPlace := ["internal/abi.NoEscape", "internal/bytealg.MakeNoZero", "internal/bytealg.CountString", "internal/bytealg.IndexByteString", "internal/bytealg.IndexString"], unfollowed := true, recurses := true, named := ["unicode/utf8.first", "unicode/utf8.acceptRanges", "internal/bytealg.MaxLen"], apart := false, laid := [("unicode/utf8.acceptRanges", laid_unicode_utf8_acceptRanges), ("unicode/utf8.first", laid_unicode_utf8_first)] }
def TextsPartsSaid : Prop := textsPartsRow.holds Tryd.pinned (OpenSpec.ofChange textsPartsSpec)

/-- ITS FALSE NEIGHBOUR: 'it returns false'. Refute it at one input. -/
def textsPartsWrong : ChangeSpec := { name := "textsParts", fn := fun _ => fun
  | [d] => { results := [.lit (.bool false)], args := [d] }
  | _ => none }
def TextsPartsWrongFalsely : Prop := textsPartsRow.holds Tryd.pinned (OpenSpec.ofChange textsPartsWrong)

/-- 'lexiconlaw02.TextsNames': WHATEVER THE INPUT: true; the input reads as it did. -/
def textsNamesSpec : ChangeSpec := { name := "textsNames", fn := fun _ => fun
  | [d] => { results := [.lit (.bool true)], args := [d] }
  | _ => none }
def textsNamesRow : OpenClaim := { program := "ytbpelgbblpeojaadoor", sum := "4da5a91cd45a4a7de5328caf7b9d5887b5407c42ef28c23db2aee61c763fd373", func := "lexicon/lexiconlaw02.TextsNames", spec := "textsNames", inPlace := ["internal/abi.NoEscape", "internal/bytealg.MakeNoZero", "internal/bytealg.CountString", "internal/bytealg.IndexByteString", "internal/bytealg.IndexString"], named := ["unicode/utf8.first", "unicode/utf8.acceptRanges", "internal/bytealg.MaxLen"], apart := false, laid := [("unicode/utf8.acceptRanges", laid_unicode_utf8_acceptRanges), ("unicode/utf8.first", laid_unicode_utf8_first)] }
def TextsNamesSaid : Prop := textsNamesRow.holds Tryd.pinned (OpenSpec.ofChange textsNamesSpec)

/-- ITS FALSE NEIGHBOUR: 'it returns false'. Refute it at one input. -/
def textsNamesWrong : ChangeSpec := { name := "textsNames", fn := fun _ => fun
  | [d] => { results := [.lit (.bool false)], args := [d] }
  | _ => none }
def TextsNamesWrongFalsely : Prop := textsNamesRow.holds Tryd.pinned (OpenSpec.ofChange textsNamesWrong)

/-- 'lexiconlaw02.TextsLiterals': WHATEVER THE INPUT: true; the input reads as it did. -/
def textsLiteralsSpec : ChangeSpec := { name := "textsLiterals", fn := fun _ => fun
  | [d] => { results := [.lit (.bool true)], args := [d] }
  | _ => none }
def textsLiteralsRow : OpenClaim := { program := "ytbpelgbblpeojaadoor", sum := "4da5a91cd45a4a7de5328caf7b9d5887b5407c42ef28c23db2aee61c763fd373", func := "lexicon/lexiconlaw02.TextsLiterals", spec := "textsLiterals", inPlace := ["internal/abi.NoEscape", "internal/bytealg.MakeNoZero", "internal/bytealg.IndexByteString"], named := ["unicode/utf8.first", "unicode/utf8.acceptRanges"], apart := false, laid := [("unicode/utf8.acceptRanges", laid_unicode_utf8_acceptRanges), ("unicode/utf8.first", laid_unicode_utf8_first)] }
def TextsLiteralsSaid : Prop := textsLiteralsRow.holds Tryd.pinned (OpenSpec.ofChange textsLiteralsSpec)

/-- ITS FALSE NEIGHBOUR: 'it returns false'. Refute it at one input. -/
def textsLiteralsWrong : ChangeSpec := { name := "textsLiterals", fn := fun _ => fun
  | [d] => { results := [.lit (.bool false)], args := [d] }
  | _ => none }
def TextsLiteralsWrongFalsely : Prop := textsLiteralsRow.holds Tryd.pinned (OpenSpec.ofChange textsLiteralsWrong)

/-- 'lexiconlaw02.TextsBack': WHATEVER THE INPUT: true; the input reads as it did. -/
def textsBackSpec : ChangeSpec := { name := "textsBack", fn := fun _ => fun
  | [d1, d2] => { results := [.lit (.bool true)], args := [d1, d2] }
  | _ => none }
def textsBackRow : OpenClaim := { program := "ytbpelgbblpeojaadoor", sum := "4da5a91cd45a4a7de5328caf7b9d5887b5407c42ef28c23db2aee61c763fd373", func := "lexicon/lexiconlaw02.TextsBack", spec := "textsBack", inPlace := ["internal/abi.NoEscape", "internal/bytealg.MakeNoZero", "internal/bytealg.IndexByteString"], named := ["unicode/utf8.first", "unicode/utf8.acceptRanges"], apart := false, laid := [("unicode/utf8.acceptRanges", laid_unicode_utf8_acceptRanges), ("unicode/utf8.first", laid_unicode_utf8_first)] }
def TextsBackSaid : Prop := textsBackRow.holds Tryd.pinned (OpenSpec.ofChange textsBackSpec)

/-- ITS FALSE NEIGHBOUR: 'it returns false'. Refute it at one input. -/
def textsBackWrong : ChangeSpec := { name := "textsBack", fn := fun _ => fun
  | [d1, d2] => { results := [.lit (.bool false)], args := [d1, d2] }
  | _ => none }
def TextsBackWrongFalsely : Prop := textsBackRow.holds Tryd.pinned (OpenSpec.ofChange textsBackWrong)

/- THE SECOND FORM. 'bulk': how many values and letters a reading holds, each counted each time it is reached (what is shared counts as often as it is met; a slice's spare places count too). A statement '..UptoSaid' is the law's where the arguments, and the package variables that the reading takes, are together of bulk at most 1048576: NARROWER than '..Said'. Prove '..Said' where nothing that the law and all that it calls make is longer than what came in: it says more and counts as full. Else prove '..UptoSaid'. A law counts once. -/
mutual
def uptoBulk {H : Type} : DataW H → Nat
  | .lit (.string bytes) => bytes.length + 1
  | .lit _ => 1
  | .nil => 1
  | .ptr d => uptoBulk d + 1
  | .slice elems spare => uptoBulkAll elems + uptoBulkAll spare + 1
  | .agg parts => uptoBulkAll parts + 1
  | .iface _ d => uptoBulk d + 1
  | .map entries => uptoBulkEntries entries + 1
  | .held _ => 1
def uptoBulkAll {H : Type} : List (DataW H) → Nat
  | [] => 0
  | d :: r => uptoBulk d + uptoBulkAll r
def uptoBulkEntries {H : Type} : List (Lit × DataW H) → Nat
  | [] => 0
  | x :: r => uptoBulkEntry x + uptoBulkEntries r
def uptoBulkEntry {H : Type} : Lit × DataW H → Nat
  | (.string bytes, d) => bytes.length + uptoBulk d + 1
  | (_, d) => uptoBulk d + 1
 end
def uptoSmall : (H : Type) → List (DataW H) → Bool := fun _ ds => decide (uptoBulkAll ds ≤ 1048576)
def OpenSpec.upto (s : _root_.Go.ChangeSpec) : _root_.Go.OpenSpec := { _root_.Go.OpenSpec.ofChange s with cond := some uptoSmall }

/-- 'lexiconlaw02.TextsNumbers', WHERE WHAT IT READS IS OF BULK AT MOST 1048576: true; the input reads as it did. -/
def textsNumbersUptoRow : OpenClaim := { program := "ytbpelgbblpeojaadoor", sum := "4da5a91cd45a4a7de5328caf7b9d5887b5407c42ef28c23db2aee61c763fd373", func := "lexicon/lexiconlaw02.TextsNumbers", spec := "textsNumbers", inPlace := ["internal/abi.NoEscape", "internal/bytealg.MakeNoZero"], named := ["unicode/utf8.first", "unicode/utf8.acceptRanges"], apart := false, laid := [("unicode/utf8.acceptRanges", laid_unicode_utf8_acceptRanges), ("unicode/utf8.first", laid_unicode_utf8_first)], narrowed := true }
def TextsNumbersUptoSaid : Prop := textsNumbersUptoRow.holds Tryd.pinned (OpenSpec.upto textsNumbersSpec)

/-- 'lexiconlaw02.TextsGood', WHERE WHAT IT READS IS OF BULK AT MOST 1048576: true; the input reads as it did. -/
def textsGoodUptoRow : OpenClaim := { program := "ytbpelgbblpeojaadoor", sum := "4da5a91cd45a4a7de5328caf7b9d5887b5407c42ef28c23db2aee61c763fd373", func := "lexicon/lexiconlaw02.TextsGood", spec := "textsGood", inPlace := ["internal/abi.NoEscape", "internal/bytealg.MakeNoZero"], named := ["unicode/utf8.first", "unicode/utf8.acceptRanges"], apart := false, laid := [("unicode/utf8.acceptRanges", laid_unicode_utf8_acceptRanges), ("unicode/utf8.first", laid_unicode_utf8_first)], narrowed := true }
def TextsGoodUptoSaid : Prop := textsGoodUptoRow.holds Tryd.pinned (OpenSpec.upto textsGoodSpec)

/-- 'lexiconlaw02.TextsJoins', WHERE WHAT IT READS IS OF BULK AT MOST 1048576: true; the input reads as it did. -/
def textsJoinsUptoRow : OpenClaim := { program := "ytbpelgbblpeojaadoor", sum := "4da5a91cd45a4a7de5328caf7b9d5887b5407c42ef28c23db2aee61c763fd373", func := "lexicon/lexiconlaw02.TextsJoins", spec := "textsJoins", inPlace := ["internal/abi.NoEscape", "internal/bytealg.MakeNoZero"], named := ["unicode/utf8.first", "unicode/utf8.acceptRanges"], apart := false, laid := [("unicode/utf8.acceptRanges", laid_unicode_utf8_acceptRanges), ("unicode/utf8.first", laid_unicode_utf8_first)], narrowed := true }
def TextsJoinsUptoSaid : Prop := textsJoinsUptoRow.holds Tryd.pinned (OpenSpec.upto textsJoinsSpec)

/-- 'lexiconlaw02.TextsJoined', WHERE WHAT IT READS IS OF BULK AT MOST 1048576: true; the input reads as it did. -/
def textsJoinedUptoRow : OpenClaim := { program := "ytbpelgbblpeojaadoor", sum := "4da5a91cd45a4a7de5328caf7b9d5887b5407c42ef28c23db2aee61c763fd373", func := "lexicon/lexiconlaw02.TextsJoined", spec := "textsJoined", inPlace := ["internal/abi.NoEscape", "internal/bytealg.MakeNoZero"], named := ["unicode/utf8.first", "unicode/utf8.acceptRanges"], apart := false, laid := [("unicode/utf8.acceptRanges", laid_unicode_utf8_acceptRanges), ("unicode/utf8.first", laid_unicode_utf8_first)], narrowed := true }
def TextsJoinedUptoSaid : Prop := textsJoinedUptoRow.holds Tryd.pinned (OpenSpec.upto textsJoinedSpec)

/-- 'lexiconlaw02.TextsScopes', WHERE WHAT IT READS IS OF BULK AT MOST 1048576: true; the input reads as it did. -/
def textsScopesUptoRow : OpenClaim := { program := "ytbpelgbblpeojaadoor", sum := "4da5a91cd45a4a7de5328caf7b9d5887b5407c42ef28c23db2aee61c763fd373", func := "lexicon/lexiconlaw02.TextsScopes", spec := "textsScopes", inPlace := ["internal/abi.NoEscape", "internal/bytealg.MakeNoZero"], unfollowed := true, recurses := true, named := ["unicode/utf8.first", "unicode/utf8.acceptRanges"], apart := false, laid := [("unicode/utf8.acceptRanges", laid_unicode_utf8_acceptRanges), ("unicode/utf8.first", laid_unicode_utf8_first)], narrowed := true }
def TextsScopesUptoSaid : Prop := textsScopesUptoRow.holds Tryd.pinned (OpenSpec.upto textsScopesSpec)

/-- 'lexiconlaw02.TextsCamel', WHERE WHAT IT READS IS OF BULK AT MOST 1048576: true; the input reads as it did. -/
def textsCamelUptoRow : OpenClaim := { program := "ytbpelgbblpeojaadoor", sum := "4da5a91cd45a4a7de5328caf7b9d5887b5407c42ef28c23db2aee61c763fd373", func := "lexicon/lexiconlaw02.TextsCamel", spec := "textsCamel", inPlace := ["internal/abi.NoEscape", "internal/bytealg.MakeNoZero"], named := ["unicode/utf8.first", "unicode/utf8.acceptRanges"], apart := false, laid := [("unicode/utf8.acceptRanges", laid_unicode_utf8_acceptRanges), ("unicode/utf8.first", laid_unicode_utf8_first)], narrowed := true }
def TextsCamelUptoSaid : Prop := textsCamelUptoRow.holds Tryd.pinned (OpenSpec.upto textsCamelSpec)

/-- 'lexiconlaw02.TextsBase', WHERE WHAT IT READS IS OF BULK AT MOST 1048576: true; the input reads as it did. -/
def textsBaseUptoRow : OpenClaim := { program := "ytbpelgbblpeojaadoor", sum := "4da5a91cd45a4a7de5328caf7b9d5887b5407c42ef28c23db2aee61c763fd373", func := "lexicon/lexiconlaw02.TextsBase", spec := "textsBase", inPlace := ["internal/abi.NoEscape", "internal/bytealg.MakeNoZero"], named := ["unicode/utf8.first", "unicode/utf8.acceptRanges"], apart := false, laid := [("unicode/utf8.acceptRanges", laid_unicode_utf8_acceptRanges), ("unicode/utf8.first", laid_unicode_utf8_first)], narrowed := true }
def TextsBaseUptoSaid : Prop := textsBaseUptoRow.holds Tryd.pinned (OpenSpec.upto textsBaseSpec)

/-- 'lexiconlaw02.TextsBaseForms', WHERE WHAT IT READS IS OF BULK AT MOST 1048576: true; the input reads as it did. -/
def textsBaseFormsUptoRow : OpenClaim := { program := "ytbpelgbblpeojaadoor", sum := "4da5a91cd45a4a7de5328caf7b9d5887b5407c42ef28c23db2aee61c763fd373", func := "lexicon/lexiconlaw02.TextsBaseForms", spec := "textsBaseForms", inPlace := ["internal/abi.NoEscape", "internal/bytealg.MakeNoZero"], named := ["unicode/utf8.first", "unicode/utf8.acceptRanges"], apart := false, laid := [("unicode/utf8.acceptRanges", laid_unicode_utf8_acceptRanges), ("unicode/utf8.first", laid_unicode_utf8_first)], narrowed := true }
def TextsBaseFormsUptoSaid : Prop := textsBaseFormsUptoRow.holds Tryd.pinned (OpenSpec.upto textsBaseFormsSpec)

/-- 'lexiconlaw02.TextsParts', WHERE WHAT IT READS IS OF BULK AT MOST 1048576: true; the input reads as it did. -/
def textsPartsUptoRow : OpenClaim := { program := "ytbpelgbblpeojaadoor", sum := "4da5a91cd45a4a7de5328caf7b9d5887b5407c42ef28c23db2aee61c763fd373", func := "lexicon/lexiconlaw02.TextsParts", spec := "textsParts", inPlace := ["internal/abi.NoEscape", "internal/bytealg.MakeNoZero", "internal/bytealg.CountString", "internal/bytealg.IndexByteString", "internal/bytealg.IndexString"], unfollowed := true, recurses := true, named := ["unicode/utf8.first", "unicode/utf8.acceptRanges", "internal/bytealg.MaxLen"], apart := false, laid := [("unicode/utf8.acceptRanges", laid_unicode_utf8_acceptRanges), ("unicode/utf8.first", laid_unicode_utf8_first)], narrowed := true }
def TextsPartsUptoSaid : Prop := textsPartsUptoRow.holds Tryd.pinned (OpenSpec.upto textsPartsSpec)

/-- 'lexiconlaw02.TextsNames', WHERE WHAT IT READS IS OF BULK AT MOST 1048576: true; the input reads as it did. -/
def textsNamesUptoRow : OpenClaim := { program := "ytbpelgbblpeojaadoor", sum := "4da5a91cd45a4a7de5328caf7b9d5887b5407c42ef28c23db2aee61c763fd373", func := "lexicon/lexiconlaw02.TextsNames", spec := "textsNames", inPlace := ["internal/abi.NoEscape", "internal/bytealg.MakeNoZero", "internal/bytealg.CountString", "internal/bytealg.IndexByteString", "internal/bytealg.IndexString"], named := ["unicode/utf8.first", "unicode/utf8.acceptRanges", "internal/bytealg.MaxLen"], apart := false, laid := [("unicode/utf8.acceptRanges", laid_unicode_utf8_acceptRanges), ("unicode/utf8.first", laid_unicode_utf8_first)], narrowed := true }
def TextsNamesUptoSaid : Prop := textsNamesUptoRow.holds Tryd.pinned (OpenSpec.upto textsNamesSpec)

/-- 'lexiconlaw02.TextsLiterals', WHERE WHAT IT READS IS OF BULK AT MOST 1048576: true; the input reads as it did. -/
def textsLiteralsUptoRow : OpenClaim := { program := "ytbpelgbblpeojaadoor", sum := "4da5a91cd45a4a7de5328caf7b9d5887b5407c42ef28c23db2aee61c763fd373", func := "lexicon/lexiconlaw02.TextsLiterals", spec := "textsLiterals", inPlace := ["internal/abi.NoEscape", "internal/bytealg.MakeNoZero", "internal/bytealg.IndexByteString"], named := ["unicode/utf8.first", "unicode/utf8.acceptRanges"], apart := false, laid := [("unicode/utf8.acceptRanges", laid_unicode_utf8_acceptRanges), ("unicode/utf8.first", laid_unicode_utf8_first)], narrowed := true }
def TextsLiteralsUptoSaid : Prop := textsLiteralsUptoRow.holds Tryd.pinned (OpenSpec.upto textsLiteralsSpec)

/-- 'lexiconlaw02.TextsBack', WHERE WHAT IT READS IS OF BULK AT MOST 1048576: true; the input reads as it did. -/
def textsBackUptoRow : OpenClaim := { program := "ytbpelgbblpeojaadoor", sum := "4da5a91cd45a4a7de5328caf7b9d5887b5407c42ef28c23db2aee61c763fd373", func := "lexicon/lexiconlaw02.TextsBack", spec := "textsBack", inPlace := ["internal/abi.NoEscape", "internal/bytealg.MakeNoZero", "internal/bytealg.IndexByteString"], named := ["unicode/utf8.first", "unicode/utf8.acceptRanges"], apart := false, laid := [("unicode/utf8.acceptRanges", laid_unicode_utf8_acceptRanges), ("unicode/utf8.first", laid_unicode_utf8_first)], narrowed := true }
def TextsBackUptoSaid : Prop := textsBackUptoRow.holds Tryd.pinned (OpenSpec.upto textsBackSpec)

end Rows
end Go.Proofs.YtbpelgbblpeojaaDoor
