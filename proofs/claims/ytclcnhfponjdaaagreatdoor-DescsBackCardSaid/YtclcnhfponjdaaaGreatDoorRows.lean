/-
  NARROWER THAN 'FOR EVERY INPUT', by the rows' own cells (each row's printed sentence says how): DescsNames: laid · DescsReads: laid · DescsForm: laid · DescsWrites: loops, laid · DescsBack: loops, laid.
  DERIVED. THE GIVEN ROWS OF THIS SEAT. 5 by the template 'for every input the law returns true; each argument reads behind the call as it read before'; 0 by the template 'total and deterministic' (their statements: YtclcnhfponjdaaaGreatDoorTotals.lean).
  GIVEN WITH THE SEED: the statements are not yours to turn. If you find one false, say at which input.
  Laid BY PROGRAM, IN A SANDBOX (cutbox-rows.mjs): the forced cells as the released guide's own fill.sh prints them over the translation c047193a2cbf5253… (all of the seat's roots in one cut). By AI agents, Wed Nov 11 2026. No macro, syntax, notation, axiom, sorry.
-/
import Derived.Test.YtclcnhfponjdaaaGreatDoorChecked
import GoSem.PinnedTables
import GoSem.Claim
import GoSem.ClaimJoined
import GoSem.ClaimMapViews
import Derived.JoinedTies
import Derived.KernelRfl
namespace Go.Proofs.YtclcnhfponjdaaaGreatDoor
/- THE CELL 'sum', in the pinned program and in every row, IS THE sha256 OF THE DUMP (.gsa) THAT YtclcnhfponjdaaaGreatDoorProg.lean LOADS. Nothing in Lean hashes anything: it is a label: what it is worth is what the hold of that sum in a sandbox is worth. -/
noncomputable def Tryz.pinned : Pinned := { name := "ytclcnhfponjdaaagreatdoor", sum := "c047193a2cbf5253641b8aa8612ef4cb1f080bbabe5d2cb2e764548cc800edc8", checked := Tryz.checked }
namespace Rows
def none {H : Type} : Left H := { results := [], args := [] }

/- WHAT THE LISTED PACKAGE-LEVEL VARIABLES READ AS WHEN THE CALL BEGINS. Each datum BY PROGRAM (the guide's laid-datum.mjs) off the statement by which the dump's own 'gosem.cut.vars' lays the variable. In a bare row this is a premise. The card (YtclcnhfponjdaaaGreatDoorCards.lean) ties it to the program's text. -/
def laid_unicode_utf8_acceptRanges {H : Type} : DataW H := .agg [.agg [.lit (.int .u8 128), .lit (.int .u8 191)], .agg [.lit (.int .u8 160), .lit (.int .u8 191)], .agg [.lit (.int .u8 128), .lit (.int .u8 159)], .agg [.lit (.int .u8 144), .lit (.int .u8 191)], .agg [.lit (.int .u8 128), .lit (.int .u8 143)], .agg [.lit (.int .u8 0), .lit (.int .u8 0)], .agg [.lit (.int .u8 0), .lit (.int .u8 0)], .agg [.lit (.int .u8 0), .lit (.int .u8 0)], .agg [.lit (.int .u8 0), .lit (.int .u8 0)], .agg [.lit (.int .u8 0), .lit (.int .u8 0)], .agg [.lit (.int .u8 0), .lit (.int .u8 0)], .agg [.lit (.int .u8 0), .lit (.int .u8 0)], .agg [.lit (.int .u8 0), .lit (.int .u8 0)], .agg [.lit (.int .u8 0), .lit (.int .u8 0)], .agg [.lit (.int .u8 0), .lit (.int .u8 0)], .agg [.lit (.int .u8 0), .lit (.int .u8 0)]]
/-- One of Go's own tables, pinned by name: the form's constant. -/
def laid_unicode_utf8_first : DataW Unit := Go.Pinned.utf8First

/-- 'lexiconlaw07.DescsNames': WHATEVER THE INPUT: true; the input reads as it did. -/
def descsNamesSpec : ChangeSpec := { name := "descsNames", fn := fun _ => fun
  | [] => { results := [.lit (.bool true)], args := [] }
  | _ => none }
def descsNamesRow : OpenClaim := { program := "ytclcnhfponjdaaagreatdoor", sum := "c047193a2cbf5253641b8aa8612ef4cb1f080bbabe5d2cb2e764548cc800edc8", func := "lexicon/lexiconlaw07.DescsNames", spec := "descsNames", inPlace := ["slices.overlaps[byte]"], unfollowed := true, recurses := true, named := ["unicode/utf8.first", "unicode/utf8.acceptRanges"], apart := false, laid := [("unicode/utf8.acceptRanges", laid_unicode_utf8_acceptRanges), ("unicode/utf8.first", laid_unicode_utf8_first)] }
def DescsNamesSaid : Prop := descsNamesRow.holds Tryz.pinned (OpenSpec.ofChange descsNamesSpec)

/-- ITS FALSE NEIGHBOUR: 'it returns false'. Refute it at one input. -/
def descsNamesWrong : ChangeSpec := { name := "descsNames", fn := fun _ => fun
  | [] => { results := [.lit (.bool false)], args := [] }
  | _ => none }
def DescsNamesWrongFalsely : Prop := descsNamesRow.holds Tryz.pinned (OpenSpec.ofChange descsNamesWrong)

/-- 'lexiconlaw07.DescsReads': WHATEVER THE INPUT: true; the input reads as it did. -/
def descsReadsSpec : ChangeSpec := { name := "descsReads", fn := fun _ => fun
  | [d] => { results := [.lit (.bool true)], args := [d] }
  | _ => none }
def descsReadsRow : OpenClaim := { program := "ytclcnhfponjdaaagreatdoor", sum := "c047193a2cbf5253641b8aa8612ef4cb1f080bbabe5d2cb2e764548cc800edc8", func := "lexicon/lexiconlaw07.DescsReads", spec := "descsReads", inPlace := ["slices.overlaps[byte]"], unfollowed := true, recurses := true, named := ["unicode/utf8.first", "unicode/utf8.acceptRanges"], apart := false, laid := [("unicode/utf8.acceptRanges", laid_unicode_utf8_acceptRanges), ("unicode/utf8.first", laid_unicode_utf8_first)] }
def DescsReadsSaid : Prop := descsReadsRow.holds Tryz.pinned (OpenSpec.ofChange descsReadsSpec)

/-- ITS FALSE NEIGHBOUR: 'it returns false'. Refute it at one input. -/
def descsReadsWrong : ChangeSpec := { name := "descsReads", fn := fun _ => fun
  | [d] => { results := [.lit (.bool false)], args := [d] }
  | _ => none }
def DescsReadsWrongFalsely : Prop := descsReadsRow.holds Tryz.pinned (OpenSpec.ofChange descsReadsWrong)

/-- 'lexiconlaw07.DescsForm': WHATEVER THE INPUT: true; the input reads as it did. -/
def descsFormSpec : ChangeSpec := { name := "descsForm", fn := fun _ => fun
  | [d1, d2, d3] => { results := [.lit (.bool true)], args := [d1, d2, d3] }
  | _ => none }
def descsFormRow : OpenClaim := { program := "ytclcnhfponjdaaagreatdoor", sum := "c047193a2cbf5253641b8aa8612ef4cb1f080bbabe5d2cb2e764548cc800edc8", func := "lexicon/lexiconlaw07.DescsForm", spec := "descsForm", inPlace := ["slices.overlaps[byte]"], unfollowed := true, recurses := true, named := ["unicode/utf8.first", "unicode/utf8.acceptRanges"], apart := false, laid := [("unicode/utf8.acceptRanges", laid_unicode_utf8_acceptRanges), ("unicode/utf8.first", laid_unicode_utf8_first)] }
def DescsFormSaid : Prop := descsFormRow.holds Tryz.pinned (OpenSpec.ofChange descsFormSpec)

/-- ITS FALSE NEIGHBOUR: 'it returns false'. Refute it at one input. -/
def descsFormWrong : ChangeSpec := { name := "descsForm", fn := fun _ => fun
  | [d1, d2, d3] => { results := [.lit (.bool false)], args := [d1, d2, d3] }
  | _ => none }
def DescsFormWrongFalsely : Prop := descsFormRow.holds Tryz.pinned (OpenSpec.ofChange descsFormWrong)

/-- 'lexiconlaw07.DescsWrites': WHATEVER THE INPUT: true; the input reads as it did. -/
def descsWritesSpec : ChangeSpec := { name := "descsWrites", fn := fun _ => fun
  | [d] => { results := [.lit (.bool true)], args := [d] }
  | _ => none }
def descsWritesRow : OpenClaim := { program := "ytclcnhfponjdaaagreatdoor", sum := "c047193a2cbf5253641b8aa8612ef4cb1f080bbabe5d2cb2e764548cc800edc8", func := "lexicon/lexiconlaw07.DescsWrites", spec := "descsWrites", inPlace := ["slices.overlaps[byte]"], unfollowed := true, recurses := true, named := ["unicode/utf8.first", "unicode/utf8.acceptRanges"], loops := true, apart := false, laid := [("unicode/utf8.acceptRanges", laid_unicode_utf8_acceptRanges), ("unicode/utf8.first", laid_unicode_utf8_first)] }
def DescsWritesSaid : Prop := descsWritesRow.holds Tryz.pinned (OpenSpec.ofChange descsWritesSpec)

/-- ITS FALSE NEIGHBOUR: 'it returns false'. Refute it at one input. -/
def descsWritesWrong : ChangeSpec := { name := "descsWrites", fn := fun _ => fun
  | [d] => { results := [.lit (.bool false)], args := [d] }
  | _ => none }
def DescsWritesWrongFalsely : Prop := descsWritesRow.holds Tryz.pinned (OpenSpec.ofChange descsWritesWrong)

/-- 'lexiconlaw07.DescsBack': WHATEVER THE INPUT: true; the input reads as it did. -/
def descsBackSpec : ChangeSpec := { name := "descsBack", fn := fun _ => fun
  | [d1, d2] => { results := [.lit (.bool true)], args := [d1, d2] }
  | _ => none }
def descsBackRow : OpenClaim := { program := "ytclcnhfponjdaaagreatdoor", sum := "c047193a2cbf5253641b8aa8612ef4cb1f080bbabe5d2cb2e764548cc800edc8", func := "lexicon/lexiconlaw07.DescsBack", spec := "descsBack", inPlace := ["slices.overlaps[byte]"], unfollowed := true, recurses := true, named := ["unicode/utf8.first", "unicode/utf8.acceptRanges"], loops := true, apart := false, laid := [("unicode/utf8.acceptRanges", laid_unicode_utf8_acceptRanges), ("unicode/utf8.first", laid_unicode_utf8_first)] }
def DescsBackSaid : Prop := descsBackRow.holds Tryz.pinned (OpenSpec.ofChange descsBackSpec)

/-- ITS FALSE NEIGHBOUR: 'it returns false'. Refute it at one input. -/
def descsBackWrong : ChangeSpec := { name := "descsBack", fn := fun _ => fun
  | [d1, d2] => { results := [.lit (.bool false)], args := [d1, d2] }
  | _ => none }
def DescsBackWrongFalsely : Prop := descsBackRow.holds Tryz.pinned (OpenSpec.ofChange descsBackWrong)

/- THE SECOND FORM. 'bulk': how many values and letters a reading holds, each counted each time it is reached (what is shared counts as often as it is met; a slice's spare places count too). A statement '..UptoSaid' is the law's where the arguments, and the package variables that the reading takes, are together of bulk at most 1048576: NARROWER than '..Said'. Prove '..Said' where nothing that the law and all that it calls make is longer than what came in: it says more and counts as full. Else prove '..UptoSaid'. A law counts once. -/
mutual
def uptoBulk {H : Type} : DataW H → Nat
  | .lit (.string bytes) => bytes.length + 1
  | .lit _ => 1
  | .nil => 1
  | .ptr d => uptoBulk d + 1
  | .slice elems spare => uptoBulkAll elems + uptoBulkAll spare + 1
  | .agg parts => uptoBulkAll parts + 1
  | .iface _ d => uptoBulk d + 1
  | .map entries => uptoBulkEntries entries + 1
  | .held _ => 1
def uptoBulkAll {H : Type} : List (DataW H) → Nat
  | [] => 0
  | d :: r => uptoBulk d + uptoBulkAll r
def uptoBulkEntries {H : Type} : List (Lit × DataW H) → Nat
  | [] => 0
  | x :: r => uptoBulkEntry x + uptoBulkEntries r
def uptoBulkEntry {H : Type} : Lit × DataW H → Nat
  | (.string bytes, d) => bytes.length + uptoBulk d + 1
  | (_, d) => uptoBulk d + 1
 end
def uptoSmall : (H : Type) → List (DataW H) → Bool := fun _ ds => decide (uptoBulkAll ds ≤ 1048576)
def OpenSpec.upto (s : _root_.Go.ChangeSpec) : _root_.Go.OpenSpec := { _root_.Go.OpenSpec.ofChange s with cond := some uptoSmall }

/-- 'lexiconlaw07.DescsNames', WHERE WHAT IT READS IS OF BULK AT MOST 1048576: true; the input reads as it did. -/
def descsNamesUptoRow : OpenClaim := { program := "ytclcnhfponjdaaagreatdoor", sum := "c047193a2cbf5253641b8aa8612ef4cb1f080bbabe5d2cb2e764548cc800edc8", func := "lexicon/lexiconlaw07.DescsNames", spec := "descsNames", inPlace := ["slices.overlaps[byte]"], unfollowed := true, recurses := true, named := ["unicode/utf8.first", "unicode/utf8.acceptRanges"], apart := false, laid := [("unicode/utf8.acceptRanges", laid_unicode_utf8_acceptRanges), ("unicode/utf8.first", laid_unicode_utf8_first)], narrowed := true }
def DescsNamesUptoSaid : Prop := descsNamesUptoRow.holds Tryz.pinned (OpenSpec.upto descsNamesSpec)

/-- 'lexiconlaw07.DescsReads', WHERE WHAT IT READS IS OF BULK AT MOST 1048576: true; the input reads as it did. -/
def descsReadsUptoRow : OpenClaim := { program := "ytclcnhfponjdaaagreatdoor", sum := "c047193a2cbf5253641b8aa8612ef4cb1f080bbabe5d2cb2e764548cc800edc8", func := "lexicon/lexiconlaw07.DescsReads", spec := "descsReads", inPlace := ["slices.overlaps[byte]"], unfollowed := true, recurses := true, named := ["unicode/utf8.first", "unicode/utf8.acceptRanges"], apart := false, laid := [("unicode/utf8.acceptRanges", laid_unicode_utf8_acceptRanges), ("unicode/utf8.first", laid_unicode_utf8_first)], narrowed := true }
def DescsReadsUptoSaid : Prop := descsReadsUptoRow.holds Tryz.pinned (OpenSpec.upto descsReadsSpec)

/-- 'lexiconlaw07.DescsForm', WHERE WHAT IT READS IS OF BULK AT MOST 1048576: true; the input reads as it did. -/
def descsFormUptoRow : OpenClaim := { program := "ytclcnhfponjdaaagreatdoor", sum := "c047193a2cbf5253641b8aa8612ef4cb1f080bbabe5d2cb2e764548cc800edc8", func := "lexicon/lexiconlaw07.DescsForm", spec := "descsForm", inPlace := ["slices.overlaps[byte]"], unfollowed := true, recurses := true, named := ["unicode/utf8.first", "unicode/utf8.acceptRanges"], apart := false, laid := [("unicode/utf8.acceptRanges", laid_unicode_utf8_acceptRanges), ("unicode/utf8.first", laid_unicode_utf8_first)], narrowed := true }
def DescsFormUptoSaid : Prop := descsFormUptoRow.holds Tryz.pinned (OpenSpec.upto descsFormSpec)

/-- 'lexiconlaw07.DescsWrites', WHERE WHAT IT READS IS OF BULK AT MOST 1048576: true; the input reads as it did. -/
def descsWritesUptoRow : OpenClaim := { program := "ytclcnhfponjdaaagreatdoor", sum := "c047193a2cbf5253641b8aa8612ef4cb1f080bbabe5d2cb2e764548cc800edc8", func := "lexicon/lexiconlaw07.DescsWrites", spec := "descsWrites", inPlace := ["slices.overlaps[byte]"], unfollowed := true, recurses := true, named := ["unicode/utf8.first", "unicode/utf8.acceptRanges"], loops := true, apart := false, laid := [("unicode/utf8.acceptRanges", laid_unicode_utf8_acceptRanges), ("unicode/utf8.first", laid_unicode_utf8_first)], narrowed := true }
def DescsWritesUptoSaid : Prop := descsWritesUptoRow.holds Tryz.pinned (OpenSpec.upto descsWritesSpec)

/-- 'lexiconlaw07.DescsBack', WHERE WHAT IT READS IS OF BULK AT MOST 1048576: true; the input reads as it did. -/
def descsBackUptoRow : OpenClaim := { program := "ytclcnhfponjdaaagreatdoor", sum := "c047193a2cbf5253641b8aa8612ef4cb1f080bbabe5d2cb2e764548cc800edc8", func := "lexicon/lexiconlaw07.DescsBack", spec := "descsBack", inPlace := ["slices.overlaps[byte]"], unfollowed := true, recurses := true, named := ["unicode/utf8.first", "unicode/utf8.acceptRanges"], loops := true, apart := false, laid := [("unicode/utf8.acceptRanges", laid_unicode_utf8_acceptRanges), ("unicode/utf8.first", laid_unicode_utf8_first)], narrowed := true }
def DescsBackUptoSaid : Prop := descsBackUptoRow.holds Tryz.pinned (OpenSpec.upto descsBackSpec)

end Rows
end Go.Proofs.YtclcnhfponjdaaaGreatDoor
