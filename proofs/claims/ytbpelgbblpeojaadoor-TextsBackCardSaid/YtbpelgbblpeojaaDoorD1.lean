/- Words: numbers and characters of the document; short escapes. -/
import Derived.Test.YtbpelgbblpeojaaDoorB28
set_option linter.unusedVariables false
set_option linter.unusedSimpArgs false
namespace Go.Proofs.YtbpelgbblpeojaaDoor
open Go.Sk
set_option maxRecDepth 100000
def numM (r : List Int) (k : Nat) : Int := if hcnt r k = k then hval r k 0 else -1
def charD (n : Int) : List Int := if validR n then chrL n else []
theorem drop_getD {l : List Int} {a i : Nat} : l.getD (a + i) 0 = (l.drop a).getD i 0 := by simp [List.getD_eq_getElem?_getD]
def shV (c : Int) : Int := if c = 10 then 110 else if c = 13 then 114 else if c = 9 then 116 else if c = 34 ∨ c = 92 then c else 0
end Go.Proofs.YtbpelgbblpeojaaDoor
