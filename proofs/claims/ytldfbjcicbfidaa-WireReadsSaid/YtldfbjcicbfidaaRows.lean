/-
  No cell of these rows narrows 'for every input' (looked for: loops, veiled, ifaces, maps, wideKeys, modest, calm, conditions, laid).
  DERIVED. THE GIVEN ROWS OF THIS SEAT. 9 by the template 'for every input the law returns true; each argument reads behind the call as it read before'; 0 by the template 'total and deterministic' (their statements: YtldfbjcicbfidaaTotals.lean).
  GIVEN WITH THE SEED: the statements are not yours to turn. If you find one false, say at which input.
  Laid BY PROGRAM, IN A SANDBOX (cutbox-rows.mjs): the forced cells as the released guide's own fill.sh prints them over the translation 074474a09bd06084… (all of the seat's roots in one cut). By AI agents, Wed Nov 11 2026. No macro, syntax, notation, axiom, sorry.
-/
import Derived.Test.YtldfbjcicbfidaaChecked
import GoSem.Claim
import GoSem.ClaimJoined
import GoSem.ClaimMapViews
import Derived.JoinedTies
import Derived.KernelRfl
namespace Go.Proofs.Ytldfbjcicbfidaa
/- THE CELL 'sum', in the pinned program and in every row, IS THE sha256 OF THE DUMP (.gsa) THAT YtldfbjcicbfidaaProg.lean LOADS. Nothing in Lean hashes anything: it is a label: what it is worth is what the hold of that sum in a sandbox is worth. -/
noncomputable def Try.pinned : Pinned := { name := "ytldfbjcicbfidaa", sum := "074474a09bd06084a776a23b2cdbfcaa0f8174249bfe961dcca0878764b52b84", checked := Try.checked }
namespace Rows
def none {H : Type} : Left H := { results := [], args := [] }

/-- 'lexiconlaw01.WireShortest': WHATEVER THE INPUT: true; the input reads as it did. -/
def wireShortestSpec : ChangeSpec := { name := "wireShortest", fn := fun _ => fun
  | [d1, d2] => { results := [.lit (.bool true)], args := [d1, d2] }
  | _ => none }
def wireShortestRow : OpenClaim := { program := "ytldfbjcicbfidaa", sum := "074474a09bd06084a776a23b2cdbfcaa0f8174249bfe961dcca0878764b52b84", func := "lexicon/lexiconlaw01.WireShortest", spec := "wireShortest", apart := false }
def WireShortestSaid : Prop := wireShortestRow.holds Try.pinned (OpenSpec.ofChange wireShortestSpec)

/-- ITS FALSE NEIGHBOUR: 'it returns false'. Refute it at one input. -/
def wireShortestWrong : ChangeSpec := { name := "wireShortest", fn := fun _ => fun
  | [d1, d2] => { results := [.lit (.bool false)], args := [d1, d2] }
  | _ => none }
def WireShortestWrongFalsely : Prop := wireShortestRow.holds Try.pinned (OpenSpec.ofChange wireShortestWrong)

/-- 'lexiconlaw01.WireNames': WHATEVER THE INPUT: true; the input reads as it did. -/
def wireNamesSpec : ChangeSpec := { name := "wireNames", fn := fun _ => fun
  | [] => { results := [.lit (.bool true)], args := [] }
  | _ => none }
def wireNamesRow : OpenClaim := { program := "ytldfbjcicbfidaa", sum := "074474a09bd06084a776a23b2cdbfcaa0f8174249bfe961dcca0878764b52b84", func := "lexicon/lexiconlaw01.WireNames", spec := "wireNames", inPlace := ["slices.overlaps[byte]"], apart := false }
def WireNamesSaid : Prop := wireNamesRow.holds Try.pinned (OpenSpec.ofChange wireNamesSpec)

/-- ITS FALSE NEIGHBOUR: 'it returns false'. Refute it at one input. -/
def wireNamesWrong : ChangeSpec := { name := "wireNames", fn := fun _ => fun
  | [] => { results := [.lit (.bool false)], args := [] }
  | _ => none }
def WireNamesWrongFalsely : Prop := wireNamesRow.holds Try.pinned (OpenSpec.ofChange wireNamesWrong)

/-- 'lexiconlaw01.WireNumbers': WHATEVER THE INPUT: true; the input reads as it did. -/
def wireNumbersSpec : ChangeSpec := { name := "wireNumbers", fn := fun _ => fun
  | [d1, d2] => { results := [.lit (.bool true)], args := [d1, d2] }
  | _ => none }
def wireNumbersRow : OpenClaim := { program := "ytldfbjcicbfidaa", sum := "074474a09bd06084a776a23b2cdbfcaa0f8174249bfe961dcca0878764b52b84", func := "lexicon/lexiconlaw01.WireNumbers", spec := "wireNumbers", inPlace := ["slices.overlaps[byte]"], apart := false }
def WireNumbersSaid : Prop := wireNumbersRow.holds Try.pinned (OpenSpec.ofChange wireNumbersSpec)

/-- ITS FALSE NEIGHBOUR: 'it returns false'. Refute it at one input. -/
def wireNumbersWrong : ChangeSpec := { name := "wireNumbers", fn := fun _ => fun
  | [d1, d2] => { results := [.lit (.bool false)], args := [d1, d2] }
  | _ => none }
def WireNumbersWrongFalsely : Prop := wireNumbersRow.holds Try.pinned (OpenSpec.ofChange wireNumbersWrong)

/-- 'lexiconlaw01.WireWrites': WHATEVER THE INPUT: true; the input reads as it did. -/
def wireWritesSpec : ChangeSpec := { name := "wireWrites", fn := fun _ => fun
  | [d1, d2] => { results := [.lit (.bool true)], args := [d1, d2] }
  | _ => none }
def wireWritesRow : OpenClaim := { program := "ytldfbjcicbfidaa", sum := "074474a09bd06084a776a23b2cdbfcaa0f8174249bfe961dcca0878764b52b84", func := "lexicon/lexiconlaw01.WireWrites", spec := "wireWrites", inPlace := ["slices.overlaps[byte]"], recurses := true, apart := false }
def WireWritesSaid : Prop := wireWritesRow.holds Try.pinned (OpenSpec.ofChange wireWritesSpec)

/-- ITS FALSE NEIGHBOUR: 'it returns false'. Refute it at one input. -/
def wireWritesWrong : ChangeSpec := { name := "wireWrites", fn := fun _ => fun
  | [d1, d2] => { results := [.lit (.bool false)], args := [d1, d2] }
  | _ => none }
def WireWritesWrongFalsely : Prop := wireWritesRow.holds Try.pinned (OpenSpec.ofChange wireWritesWrong)

/-- 'lexiconlaw01.WireBack': WHATEVER THE INPUT: true; the input reads as it did. -/
def wireBackSpec : ChangeSpec := { name := "wireBack", fn := fun _ => fun
  | [d] => { results := [.lit (.bool true)], args := [d] }
  | _ => none }
def wireBackRow : OpenClaim := { program := "ytldfbjcicbfidaa", sum := "074474a09bd06084a776a23b2cdbfcaa0f8174249bfe961dcca0878764b52b84", func := "lexicon/lexiconlaw01.WireBack", spec := "wireBack", inPlace := ["slices.overlaps[byte]"], apart := false }
def WireBackSaid : Prop := wireBackRow.holds Try.pinned (OpenSpec.ofChange wireBackSpec)

/-- ITS FALSE NEIGHBOUR: 'it returns false'. Refute it at one input. -/
def wireBackWrong : ChangeSpec := { name := "wireBack", fn := fun _ => fun
  | [d] => { results := [.lit (.bool false)], args := [d] }
  | _ => none }
def WireBackWrongFalsely : Prop := wireBackRow.holds Try.pinned (OpenSpec.ofChange wireBackWrong)

/-- 'lexiconlaw01.WireSkips': WHATEVER THE INPUT: true; the input reads as it did. -/
def wireSkipsSpec : ChangeSpec := { name := "wireSkips", fn := fun _ => fun
  | [d1, d2] => { results := [.lit (.bool true)], args := [d1, d2] }
  | _ => none }
def wireSkipsRow : OpenClaim := { program := "ytldfbjcicbfidaa", sum := "074474a09bd06084a776a23b2cdbfcaa0f8174249bfe961dcca0878764b52b84", func := "lexicon/lexiconlaw01.WireSkips", spec := "wireSkips", inPlace := ["slices.overlaps[byte]"], recurses := true, apart := false }
def WireSkipsSaid : Prop := wireSkipsRow.holds Try.pinned (OpenSpec.ofChange wireSkipsSpec)

/-- ITS FALSE NEIGHBOUR: 'it returns false'. Refute it at one input. -/
def wireSkipsWrong : ChangeSpec := { name := "wireSkips", fn := fun _ => fun
  | [d1, d2] => { results := [.lit (.bool false)], args := [d1, d2] }
  | _ => none }
def WireSkipsWrongFalsely : Prop := wireSkipsRow.holds Try.pinned (OpenSpec.ofChange wireSkipsWrong)

/-- 'lexiconlaw01.WireReads': WHATEVER THE INPUT: true; the input reads as it did. -/
def wireReadsSpec : ChangeSpec := { name := "wireReads", fn := fun _ => fun
  | [d1, d2] => { results := [.lit (.bool true)], args := [d1, d2] }
  | _ => none }
def wireReadsRow : OpenClaim := { program := "ytldfbjcicbfidaa", sum := "074474a09bd06084a776a23b2cdbfcaa0f8174249bfe961dcca0878764b52b84", func := "lexicon/lexiconlaw01.WireReads", spec := "wireReads", inPlace := ["slices.overlaps[byte]"], recurses := true, apart := false }
def WireReadsSaid : Prop := wireReadsRow.holds Try.pinned (OpenSpec.ofChange wireReadsSpec)

/-- ITS FALSE NEIGHBOUR: 'it returns false'. Refute it at one input. -/
def wireReadsWrong : ChangeSpec := { name := "wireReads", fn := fun _ => fun
  | [d1, d2] => { results := [.lit (.bool false)], args := [d1, d2] }
  | _ => none }
def WireReadsWrongFalsely : Prop := wireReadsRow.holds Try.pinned (OpenSpec.ofChange wireReadsWrong)

/-- 'lexiconlaw01.WireFields': WHATEVER THE INPUT: true; the input reads as it did. -/
def wireFieldsSpec : ChangeSpec := { name := "wireFields", fn := fun _ => fun
  | [d1, d2, d3] => { results := [.lit (.bool true)], args := [d1, d2, d3] }
  | _ => none }
def wireFieldsRow : OpenClaim := { program := "ytldfbjcicbfidaa", sum := "074474a09bd06084a776a23b2cdbfcaa0f8174249bfe961dcca0878764b52b84", func := "lexicon/lexiconlaw01.WireFields", spec := "wireFields", inPlace := ["slices.overlaps[byte]"], unfollowed := true, recurses := true, apart := false }
def WireFieldsSaid : Prop := wireFieldsRow.holds Try.pinned (OpenSpec.ofChange wireFieldsSpec)

/-- ITS FALSE NEIGHBOUR: 'it returns false'. Refute it at one input. -/
def wireFieldsWrong : ChangeSpec := { name := "wireFields", fn := fun _ => fun
  | [d1, d2, d3] => { results := [.lit (.bool false)], args := [d1, d2, d3] }
  | _ => none }
def WireFieldsWrongFalsely : Prop := wireFieldsRow.holds Try.pinned (OpenSpec.ofChange wireFieldsWrong)

/-- 'lexiconlaw01.WireJoins': WHATEVER THE INPUT: true; the input reads as it did. -/
def wireJoinsSpec : ChangeSpec := { name := "wireJoins", fn := fun _ => fun
  | [d1, d2, d3] => { results := [.lit (.bool true)], args := [d1, d2, d3] }
  | _ => none }
def wireJoinsRow : OpenClaim := { program := "ytldfbjcicbfidaa", sum := "074474a09bd06084a776a23b2cdbfcaa0f8174249bfe961dcca0878764b52b84", func := "lexicon/lexiconlaw01.WireJoins", spec := "wireJoins", inPlace := ["slices.overlaps[byte]"], unfollowed := true, recurses := true, apart := false }
def WireJoinsSaid : Prop := wireJoinsRow.holds Try.pinned (OpenSpec.ofChange wireJoinsSpec)

/-- ITS FALSE NEIGHBOUR: 'it returns false'. Refute it at one input. -/
def wireJoinsWrong : ChangeSpec := { name := "wireJoins", fn := fun _ => fun
  | [d1, d2, d3] => { results := [.lit (.bool false)], args := [d1, d2, d3] }
  | _ => none }
def WireJoinsWrongFalsely : Prop := wireJoinsRow.holds Try.pinned (OpenSpec.ofChange wireJoinsWrong)

/- THE SECOND FORM. 'bulk': how many values and letters a reading holds, each counted each time it is reached (what is shared counts as often as it is met; a slice's spare places count too). A statement '..UptoSaid' is the law's where the arguments, and the package variables that the reading takes, are together of bulk at most 1048576: NARROWER than '..Said'. Prove '..Said' where nothing that the law and all that it calls make is longer than what came in: it says more and counts as full. Else prove '..UptoSaid'. A law counts once. -/
mutual
def uptoBulk {H : Type} : DataW H → Nat
  | .lit (.string bytes) => bytes.length + 1
  | .lit _ => 1
  | .nil => 1
  | .ptr d => uptoBulk d + 1
  | .slice elems spare => uptoBulkAll elems + uptoBulkAll spare + 1
  | .agg parts => uptoBulkAll parts + 1
  | .iface _ d => uptoBulk d + 1
  | .map entries => uptoBulkEntries entries + 1
  | .held _ => 1
def uptoBulkAll {H : Type} : List (DataW H) → Nat
  | [] => 0
  | d :: r => uptoBulk d + uptoBulkAll r
def uptoBulkEntries {H : Type} : List (Lit × DataW H) → Nat
  | [] => 0
  | x :: r => uptoBulkEntry x + uptoBulkEntries r
def uptoBulkEntry {H : Type} : Lit × DataW H → Nat
  | (.string bytes, d) => bytes.length + uptoBulk d + 1
  | (_, d) => uptoBulk d + 1
 end
def uptoSmall : (H : Type) → List (DataW H) → Bool := fun _ ds => decide (uptoBulkAll ds ≤ 1048576)
def OpenSpec.upto (s : _root_.Go.ChangeSpec) : _root_.Go.OpenSpec := { _root_.Go.OpenSpec.ofChange s with cond := some uptoSmall }

/-- 'lexiconlaw01.WireShortest', WHERE WHAT IT READS IS OF BULK AT MOST 1048576: true; the input reads as it did. -/
def wireShortestUptoRow : OpenClaim := { program := "ytldfbjcicbfidaa", sum := "074474a09bd06084a776a23b2cdbfcaa0f8174249bfe961dcca0878764b52b84", func := "lexicon/lexiconlaw01.WireShortest", spec := "wireShortest", apart := false, narrowed := true }
def WireShortestUptoSaid : Prop := wireShortestUptoRow.holds Try.pinned (OpenSpec.upto wireShortestSpec)

/-- 'lexiconlaw01.WireNames', WHERE WHAT IT READS IS OF BULK AT MOST 1048576: true; the input reads as it did. -/
def wireNamesUptoRow : OpenClaim := { program := "ytldfbjcicbfidaa", sum := "074474a09bd06084a776a23b2cdbfcaa0f8174249bfe961dcca0878764b52b84", func := "lexicon/lexiconlaw01.WireNames", spec := "wireNames", inPlace := ["slices.overlaps[byte]"], apart := false, narrowed := true }
def WireNamesUptoSaid : Prop := wireNamesUptoRow.holds Try.pinned (OpenSpec.upto wireNamesSpec)

/-- 'lexiconlaw01.WireNumbers', WHERE WHAT IT READS IS OF BULK AT MOST 1048576: true; the input reads as it did. -/
def wireNumbersUptoRow : OpenClaim := { program := "ytldfbjcicbfidaa", sum := "074474a09bd06084a776a23b2cdbfcaa0f8174249bfe961dcca0878764b52b84", func := "lexicon/lexiconlaw01.WireNumbers", spec := "wireNumbers", inPlace := ["slices.overlaps[byte]"], apart := false, narrowed := true }
def WireNumbersUptoSaid : Prop := wireNumbersUptoRow.holds Try.pinned (OpenSpec.upto wireNumbersSpec)

/-- 'lexiconlaw01.WireWrites', WHERE WHAT IT READS IS OF BULK AT MOST 1048576: true; the input reads as it did. -/
def wireWritesUptoRow : OpenClaim := { program := "ytldfbjcicbfidaa", sum := "074474a09bd06084a776a23b2cdbfcaa0f8174249bfe961dcca0878764b52b84", func := "lexicon/lexiconlaw01.WireWrites", spec := "wireWrites", inPlace := ["slices.overlaps[byte]"], recurses := true, apart := false, narrowed := true }
def WireWritesUptoSaid : Prop := wireWritesUptoRow.holds Try.pinned (OpenSpec.upto wireWritesSpec)

/-- 'lexiconlaw01.WireBack', WHERE WHAT IT READS IS OF BULK AT MOST 1048576: true; the input reads as it did. -/
def wireBackUptoRow : OpenClaim := { program := "ytldfbjcicbfidaa", sum := "074474a09bd06084a776a23b2cdbfcaa0f8174249bfe961dcca0878764b52b84", func := "lexicon/lexiconlaw01.WireBack", spec := "wireBack", inPlace := ["slices.overlaps[byte]"], apart := false, narrowed := true }
def WireBackUptoSaid : Prop := wireBackUptoRow.holds Try.pinned (OpenSpec.upto wireBackSpec)

/-- 'lexiconlaw01.WireSkips', WHERE WHAT IT READS IS OF BULK AT MOST 1048576: true; the input reads as it did. -/
def wireSkipsUptoRow : OpenClaim := { program := "ytldfbjcicbfidaa", sum := "074474a09bd06084a776a23b2cdbfcaa0f8174249bfe961dcca0878764b52b84", func := "lexicon/lexiconlaw01.WireSkips", spec := "wireSkips", inPlace := ["slices.overlaps[byte]"], recurses := true, apart := false, narrowed := true }
def WireSkipsUptoSaid : Prop := wireSkipsUptoRow.holds Try.pinned (OpenSpec.upto wireSkipsSpec)

/-- 'lexiconlaw01.WireReads', WHERE WHAT IT READS IS OF BULK AT MOST 1048576: true; the input reads as it did. -/
def wireReadsUptoRow : OpenClaim := { program := "ytldfbjcicbfidaa", sum := "074474a09bd06084a776a23b2cdbfcaa0f8174249bfe961dcca0878764b52b84", func := "lexicon/lexiconlaw01.WireReads", spec := "wireReads", inPlace := ["slices.overlaps[byte]"], recurses := true, apart := false, narrowed := true }
def WireReadsUptoSaid : Prop := wireReadsUptoRow.holds Try.pinned (OpenSpec.upto wireReadsSpec)

/-- 'lexiconlaw01.WireFields', WHERE WHAT IT READS IS OF BULK AT MOST 1048576: true; the input reads as it did. -/
def wireFieldsUptoRow : OpenClaim := { program := "ytldfbjcicbfidaa", sum := "074474a09bd06084a776a23b2cdbfcaa0f8174249bfe961dcca0878764b52b84", func := "lexicon/lexiconlaw01.WireFields", spec := "wireFields", inPlace := ["slices.overlaps[byte]"], unfollowed := true, recurses := true, apart := false, narrowed := true }
def WireFieldsUptoSaid : Prop := wireFieldsUptoRow.holds Try.pinned (OpenSpec.upto wireFieldsSpec)

/-- 'lexiconlaw01.WireJoins', WHERE WHAT IT READS IS OF BULK AT MOST 1048576: true; the input reads as it did. -/
def wireJoinsUptoRow : OpenClaim := { program := "ytldfbjcicbfidaa", sum := "074474a09bd06084a776a23b2cdbfcaa0f8174249bfe961dcca0878764b52b84", func := "lexicon/lexiconlaw01.WireJoins", spec := "wireJoins", inPlace := ["slices.overlaps[byte]"], unfollowed := true, recurses := true, apart := false, narrowed := true }
def WireJoinsUptoSaid : Prop := wireJoinsUptoRow.holds Try.pinned (OpenSpec.upto wireJoinsSpec)

end Rows
end Go.Proofs.Ytldfbjcicbfidaa
