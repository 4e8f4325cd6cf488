/-
  NARROWER THAN 'FOR EVERY INPUT', by the rows' own cells (each row's printed sentence says how): CheckDoes: loops, laid · CheckFrees: loops, laid · CheckApart: loops, laid · CheckMoved: loops, laid · CheckRoom: loops, laid.
  DERIVED. THE GIVEN ROWS OF THIS SEAT. 5 by the template 'for every input the law returns true; each argument reads behind the call as it read before'; 0 by the template 'total and deterministic' (their statements: YtdemnhdoadjhhaaGreatDoorTotals.lean).
  GIVEN WITH THE SEED: the statements are not yours to turn. If you find one false, say at which input.
  Laid BY PROGRAM, IN A SANDBOX (cutbox-rows.mjs): the forced cells as the released guide's own fill.sh prints them over the translation 7c3e2c40db8ad2f1… (all of the seat's roots in one cut). By AI agents, Wed Nov 11 2026. No macro, syntax, notation, axiom, sorry.
-/
import Derived.Test.YtdemnhdoadjhhaaGreatDoorChecked
import GoSem.PinnedTables
import GoSem.Claim
import GoSem.ClaimJoined
import GoSem.ClaimMapViews
import Derived.JoinedTies
import Derived.KernelRfl
namespace Go.Proofs.YtdemnhdoadjhhaaGreatDoor
/- THE CELL 'sum', in the pinned program and in every row, IS THE sha256 OF THE DUMP (.gsa) THAT YtdemnhdoadjhhaaGreatDoorProg.lean LOADS. Nothing in Lean hashes anything: it is a label: what it is worth is what the hold of that sum in a sandbox is worth. -/
noncomputable def Tryz.pinned : Pinned := { name := "ytdemnhdoadjhhaagreatdoor", sum := "7c3e2c40db8ad2f1ea8236b599c08f64dc88964fe4c4a3ab6437fec92a41377d", checked := Tryz.checked }
namespace Rows
def none {H : Type} : Left H := { results := [], args := [] }

/- WHAT THE LISTED PACKAGE-LEVEL VARIABLES READ AS WHEN THE CALL BEGINS. Each datum BY PROGRAM (the guide's laid-datum.mjs) off the statement by which the dump's own 'gosem.cut.vars' lays the variable. In a bare row this is a premise. The card (YtdemnhdoadjhhaaGreatDoorCards.lean) ties it to the program's text. -/
def laid_unicode_utf8_acceptRanges {H : Type} : DataW H := .agg [.agg [.lit (.int .u8 128), .lit (.int .u8 191)], .agg [.lit (.int .u8 160), .lit (.int .u8 191)], .agg [.lit (.int .u8 128), .lit (.int .u8 159)], .agg [.lit (.int .u8 144), .lit (.int .u8 191)], .agg [.lit (.int .u8 128), .lit (.int .u8 143)], .agg [.lit (.int .u8 0), .lit (.int .u8 0)], .agg [.lit (.int .u8 0), .lit (.int .u8 0)], .agg [.lit (.int .u8 0), .lit (.int .u8 0)], .agg [.lit (.int .u8 0), .lit (.int .u8 0)], .agg [.lit (.int .u8 0), .lit (.int .u8 0)], .agg [.lit (.int .u8 0), .lit (.int .u8 0)], .agg [.lit (.int .u8 0), .lit (.int .u8 0)], .agg [.lit (.int .u8 0), .lit (.int .u8 0)], .agg [.lit (.int .u8 0), .lit (.int .u8 0)], .agg [.lit (.int .u8 0), .lit (.int .u8 0)], .agg [.lit (.int .u8 0), .lit (.int .u8 0)]]
/-- One of Go's own tables, pinned by name: the form's constant. -/
def laid_unicode_utf8_first : DataW Unit := Go.Pinned.utf8First

/-- 'lexiconlaw06.CheckDoes': WHATEVER THE INPUT: true; the input reads as it did. -/
def checkDoesSpec : ChangeSpec := { name := "checkDoes", fn := fun _ => fun
  | [d1, d2] => { results := [.lit (.bool true)], args := [d1, d2] }
  | _ => none }
def checkDoesRow : OpenClaim := { program := "ytdemnhdoadjhhaagreatdoor", sum := "7c3e2c40db8ad2f1ea8236b599c08f64dc88964fe4c4a3ab6437fec92a41377d", func := "lexicon/lexiconlaw06.CheckDoes", spec := "checkDoes", inPlace := ["internal/bytealg.CountString", "internal/bytealg.IndexByteString", "internal/bytealg.IndexString", "internal/abi.NoEscape", "internal/bytealg.MakeNoZero"], unfollowed := true, recurses := true, named := ["unicode/utf8.first", "unicode/utf8.acceptRanges", "internal/bytealg.MaxLen"], loops := true, apart := false, laid := [("unicode/utf8.acceptRanges", laid_unicode_utf8_acceptRanges), ("unicode/utf8.first", laid_unicode_utf8_first)] }
def CheckDoesSaid : Prop := checkDoesRow.holds Tryz.pinned (OpenSpec.ofChange checkDoesSpec)

/-- ITS FALSE NEIGHBOUR: 'it returns false'. Refute it at one input. -/
def checkDoesWrong : ChangeSpec := { name := "checkDoes", fn := fun _ => fun
  | [d1, d2] => { results := [.lit (.bool false)], args := [d1, d2] }
  | _ => none }
def CheckDoesWrongFalsely : Prop := checkDoesRow.holds Tryz.pinned (OpenSpec.ofChange checkDoesWrong)

/-- 'lexiconlaw06.CheckFrees': WHATEVER THE INPUT: true; the input reads as it did. -/
def checkFreesSpec : ChangeSpec := { name := "checkFrees", fn := fun _ => fun
  | [d1, d2, d3] => { results := [.lit (.bool true)], args := [d1, d2, d3] }
  | _ => none }
def checkFreesRow : OpenClaim := { program := "ytdemnhdoadjhhaagreatdoor", sum := "7c3e2c40db8ad2f1ea8236b599c08f64dc88964fe4c4a3ab6437fec92a41377d", func := "lexicon/lexiconlaw06.CheckFrees", spec := "checkFrees", inPlace := ["internal/bytealg.CountString", "internal/bytealg.IndexByteString", "internal/bytealg.IndexString", "internal/abi.NoEscape", "internal/bytealg.MakeNoZero"], unfollowed := true, recurses := true, named := ["unicode/utf8.first", "unicode/utf8.acceptRanges", "internal/bytealg.MaxLen"], loops := true, apart := false, laid := [("unicode/utf8.acceptRanges", laid_unicode_utf8_acceptRanges), ("unicode/utf8.first", laid_unicode_utf8_first)] }
def CheckFreesSaid : Prop := checkFreesRow.holds Tryz.pinned (OpenSpec.ofChange checkFreesSpec)

/-- ITS FALSE NEIGHBOUR: 'it returns false'. Refute it at one input. -/
def checkFreesWrong : ChangeSpec := { name := "checkFrees", fn := fun _ => fun
  | [d1, d2, d3] => { results := [.lit (.bool false)], args := [d1, d2, d3] }
  | _ => none }
def CheckFreesWrongFalsely : Prop := checkFreesRow.holds Tryz.pinned (OpenSpec.ofChange checkFreesWrong)

/-- 'lexiconlaw06.CheckApart': WHATEVER THE INPUT: true; the input reads as it did. -/
def checkApartSpec : ChangeSpec := { name := "checkApart", fn := fun _ => fun
  | [d] => { results := [.lit (.bool true)], args := [d] }
  | _ => none }
def checkApartRow : OpenClaim := { program := "ytdemnhdoadjhhaagreatdoor", sum := "7c3e2c40db8ad2f1ea8236b599c08f64dc88964fe4c4a3ab6437fec92a41377d", func := "lexicon/lexiconlaw06.CheckApart", spec := "checkApart", inPlace := ["internal/bytealg.CountString", "internal/bytealg.IndexByteString", "internal/bytealg.IndexString", "internal/abi.NoEscape", "internal/bytealg.MakeNoZero"], unfollowed := true, recurses := true, named := ["unicode/utf8.first", "unicode/utf8.acceptRanges", "internal/bytealg.MaxLen"], loops := true, apart := false, laid := [("unicode/utf8.acceptRanges", laid_unicode_utf8_acceptRanges), ("unicode/utf8.first", laid_unicode_utf8_first)] }
def CheckApartSaid : Prop := checkApartRow.holds Tryz.pinned (OpenSpec.ofChange checkApartSpec)

/-- ITS FALSE NEIGHBOUR: 'it returns false'. Refute it at one input. -/
def checkApartWrong : ChangeSpec := { name := "checkApart", fn := fun _ => fun
  | [d] => { results := [.lit (.bool false)], args := [d] }
  | _ => none }
def CheckApartWrongFalsely : Prop := checkApartRow.holds Tryz.pinned (OpenSpec.ofChange checkApartWrong)

/-- 'lexiconlaw06.CheckMoved': WHATEVER THE INPUT: true; the input reads as it did. -/
def checkMovedSpec : ChangeSpec := { name := "checkMoved", fn := fun _ => fun
  | [d1, d2, d3] => { results := [.lit (.bool true)], args := [d1, d2, d3] }
  | _ => none }
def checkMovedRow : OpenClaim := { program := "ytdemnhdoadjhhaagreatdoor", sum := "7c3e2c40db8ad2f1ea8236b599c08f64dc88964fe4c4a3ab6437fec92a41377d", func := "lexicon/lexiconlaw06.CheckMoved", spec := "checkMoved", inPlace := ["internal/bytealg.CountString", "internal/bytealg.IndexByteString", "internal/bytealg.IndexString", "internal/abi.NoEscape", "internal/bytealg.MakeNoZero"], unfollowed := true, recurses := true, named := ["unicode/utf8.first", "unicode/utf8.acceptRanges", "internal/bytealg.MaxLen"], loops := true, apart := false, laid := [("unicode/utf8.acceptRanges", laid_unicode_utf8_acceptRanges), ("unicode/utf8.first", laid_unicode_utf8_first)] }
def CheckMovedSaid : Prop := checkMovedRow.holds Tryz.pinned (OpenSpec.ofChange checkMovedSpec)

/-- ITS FALSE NEIGHBOUR: 'it returns false'. Refute it at one input. -/
def checkMovedWrong : ChangeSpec := { name := "checkMoved", fn := fun _ => fun
  | [d1, d2, d3] => { results := [.lit (.bool false)], args := [d1, d2, d3] }
  | _ => none }
def CheckMovedWrongFalsely : Prop := checkMovedRow.holds Tryz.pinned (OpenSpec.ofChange checkMovedWrong)

/-- 'lexiconlaw06.CheckRoom': WHATEVER THE INPUT: true; the input reads as it did. -/
def checkRoomSpec : ChangeSpec := { name := "checkRoom", fn := fun _ => fun
  | [d1, d2, d3, d4] => { results := [.lit (.bool true)], args := [d1, d2, d3, d4] }
  | _ => none }
def checkRoomRow : OpenClaim := { program := "ytdemnhdoadjhhaagreatdoor", sum := "7c3e2c40db8ad2f1ea8236b599c08f64dc88964fe4c4a3ab6437fec92a41377d", func := "lexicon/lexiconlaw06.CheckRoom", spec := "checkRoom", inPlace := ["internal/bytealg.CountString", "internal/bytealg.IndexByteString", "internal/bytealg.IndexString", "internal/abi.NoEscape", "internal/bytealg.MakeNoZero"], unfollowed := true, recurses := true, named := ["unicode/utf8.first", "unicode/utf8.acceptRanges", "internal/bytealg.MaxLen"], loops := true, apart := false, laid := [("unicode/utf8.acceptRanges", laid_unicode_utf8_acceptRanges), ("unicode/utf8.first", laid_unicode_utf8_first)] }
def CheckRoomSaid : Prop := checkRoomRow.holds Tryz.pinned (OpenSpec.ofChange checkRoomSpec)

/-- ITS FALSE NEIGHBOUR: 'it returns false'. Refute it at one input. -/
def checkRoomWrong : ChangeSpec := { name := "checkRoom", fn := fun _ => fun
  | [d1, d2, d3, d4] => { results := [.lit (.bool false)], args := [d1, d2, d3, d4] }
  | _ => none }
def CheckRoomWrongFalsely : Prop := checkRoomRow.holds Tryz.pinned (OpenSpec.ofChange checkRoomWrong)

/- THE SECOND FORM. 'bulk': how many values and letters a reading holds, each counted each time it is reached (what is shared counts as often as it is met; a slice's spare places count too). A statement '..UptoSaid' is the law's where the arguments, and the package variables that the reading takes, are together of bulk at most 1048576: NARROWER than '..Said'. Prove '..Said' where nothing that the law and all that it calls make is longer than what came in: it says more and counts as full. Else prove '..UptoSaid'. A law counts once. -/
mutual
def uptoBulk {H : Type} : DataW H → Nat
  | .lit (.string bytes) => bytes.length + 1
  | .lit _ => 1
  | .nil => 1
  | .ptr d => uptoBulk d + 1
  | .slice elems spare => uptoBulkAll elems + uptoBulkAll spare + 1
  | .agg parts => uptoBulkAll parts + 1
  | .iface _ d => uptoBulk d + 1
  | .map entries => uptoBulkEntries entries + 1
  | .held _ => 1
def uptoBulkAll {H : Type} : List (DataW H) → Nat
  | [] => 0
  | d :: r => uptoBulk d + uptoBulkAll r
def uptoBulkEntries {H : Type} : List (Lit × DataW H) → Nat
  | [] => 0
  | x :: r => uptoBulkEntry x + uptoBulkEntries r
def uptoBulkEntry {H : Type} : Lit × DataW H → Nat
  | (.string bytes, d) => bytes.length + uptoBulk d + 1
  | (_, d) => uptoBulk d + 1
 end
def uptoSmall : (H : Type) → List (DataW H) → Bool := fun _ ds => decide (uptoBulkAll ds ≤ 1048576)
def OpenSpec.upto (s : _root_.Go.ChangeSpec) : _root_.Go.OpenSpec := { _root_.Go.OpenSpec.ofChange s with cond := some uptoSmall }

/-- 'lexiconlaw06.CheckDoes', WHERE WHAT IT READS IS OF BULK AT MOST 1048576: true; the input reads as it did. -/
def checkDoesUptoRow : OpenClaim := { program := "ytdemnhdoadjhhaagreatdoor", sum := "7c3e2c40db8ad2f1ea8236b599c08f64dc88964fe4c4a3ab6437fec92a41377d", func := "lexicon/lexiconlaw06.CheckDoes", spec := "checkDoes", inPlace := ["internal/bytealg.CountString", "internal/bytealg.IndexByteString", "internal/bytealg.IndexString", "internal/abi.NoEscape", "internal/bytealg.MakeNoZero"], unfollowed := true, recurses := true, named := ["unicode/utf8.first", "unicode/utf8.acceptRanges", "internal/bytealg.MaxLen"], loops := true, apart := false, laid := [("unicode/utf8.acceptRanges", laid_unicode_utf8_acceptRanges), ("unicode/utf8.first", laid_unicode_utf8_first)], narrowed := true }
def CheckDoesUptoSaid : Prop := checkDoesUptoRow.holds Tryz.pinned (OpenSpec.upto checkDoesSpec)

/-- 'lexiconlaw06.CheckFrees', WHERE WHAT IT READS IS OF BULK AT MOST 1048576: true; the input reads as it did. -/
def checkFreesUptoRow : OpenClaim := { program := "ytdemnhdoadjhhaagreatdoor", sum := "7c3e2c40db8ad2f1ea8236b599c08f64dc88964fe4c4a3ab6437fec92a41377d", func := "lexicon/lexiconlaw06.CheckFrees", spec := "checkFrees", inPlace := ["internal/bytealg.CountString", "internal/bytealg.IndexByteString", "internal/bytealg.IndexString", "internal/abi.NoEscape", "internal/bytealg.MakeNoZero"], unfollowed := true, recurses := true, named := ["unicode/utf8.first", "unicode/utf8.acceptRanges", "internal/bytealg.MaxLen"], loops := true, apart := false, laid := [("unicode/utf8.acceptRanges", laid_unicode_utf8_acceptRanges), ("unicode/utf8.first", laid_unicode_utf8_first)], narrowed := true }
def CheckFreesUptoSaid : Prop := checkFreesUptoRow.holds Tryz.pinned (OpenSpec.upto checkFreesSpec)

/-- 'lexiconlaw06.CheckApart', WHERE WHAT IT READS IS OF BULK AT MOST 1048576: true; the input reads as it did. -/
def checkApartUptoRow : OpenClaim := { program := "ytdemnhdoadjhhaagreatdoor", sum := "7c3e2c40db8ad2f1ea8236b599c08f64dc88964fe4c4a3ab6437fec92a41377d", func := "lexicon/lexiconlaw06.CheckApart", spec := "checkApart", inPlace := ["internal/bytealg.CountString", "internal/bytealg.IndexByteString", "internal/bytealg.IndexString", "internal/abi.NoEscape", "internal/bytealg.MakeNoZero"], unfollowed := true, recurses := true, named := ["unicode/utf8.first", "unicode/utf8.acceptRanges", "internal/bytealg.MaxLen"], loops := true, apart := false, laid := [("unicode/utf8.acceptRanges", laid_unicode_utf8_acceptRanges), ("unicode/utf8.first", laid_unicode_utf8_first)], narrowed := true }
def CheckApartUptoSaid : Prop := checkApartUptoRow.holds Tryz.pinned (OpenSpec.upto checkApartSpec)

/-- 'lexiconlaw06.CheckMoved', WHERE WHAT IT READS IS OF BULK AT MOST 1048576: true; the input reads as it did. -/
def checkMovedUptoRow : OpenClaim := { program := "ytdemnhdoadjhhaagreatdoor", sum := "7c3e2c40db8ad2f1ea8236b599c08f64dc88964fe4c4a3ab6437fec92a41377d", func := "lexicon/lexiconlaw06.CheckMoved", spec := "checkMoved", inPlace := ["internal/bytealg.CountString", "internal/bytealg.IndexByteString", "internal/bytealg.IndexString", "internal/abi.NoEscape", "internal/bytealg.MakeNoZero"], unfollowed := true, recurses := true, named := ["unicode/utf8.first", "unicode/utf8.acceptRanges", "internal/bytealg.MaxLen"], loops := true, apart := false, laid := [("unicode/utf8.acceptRanges", laid_unicode_utf8_acceptRanges), ("unicode/utf8.first", laid_unicode_utf8_first)], narrowed := true }
def CheckMovedUptoSaid : Prop := checkMovedUptoRow.holds Tryz.pinned (OpenSpec.upto checkMovedSpec)

/-- 'lexiconlaw06.CheckRoom', WHERE WHAT IT READS IS OF BULK AT MOST 1048576: true; the input reads as it did. -/
def checkRoomUptoRow : OpenClaim := { program := "ytdemnhdoadjhhaagreatdoor", sum := "7c3e2c40db8ad2f1ea8236b599c08f64dc88964fe4c4a3ab6437fec92a41377d", func := "lexicon/lexiconlaw06.CheckRoom", spec := "checkRoom", inPlace := ["internal/bytealg.CountString", "internal/bytealg.IndexByteString", "internal/bytealg.IndexString", "internal/abi.NoEscape", "internal/bytealg.MakeNoZero"], unfollowed := true, recurses := true, named := ["unicode/utf8.first", "unicode/utf8.acceptRanges", "internal/bytealg.MaxLen"], loops := true, apart := false, laid := [("unicode/utf8.acceptRanges", laid_unicode_utf8_acceptRanges), ("unicode/utf8.first", laid_unicode_utf8_first)], narrowed := true }
def CheckRoomUptoSaid : Prop := checkRoomUptoRow.holds Tryz.pinned (OpenSpec.upto checkRoomSpec)

end Rows
end Go.Proofs.YtdemnhdoadjhhaaGreatDoor
