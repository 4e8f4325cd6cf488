/- Slices from their beginning are where they were; cells of a row in part. Plain theorems, no condition. -/
import Derived.Test.YtbpelgbblpeojabSk22
set_option linter.unusedVariables false
set_option linter.unusedSimpArgs false
namespace Go.Sk
open Go.RowKit
theorem asub_z (a : Option Addr) (c z : Nat) : asub a c z 0 = a := by
  unfold asub
  split
  · rfl
  · cases a with
    | none => rfl
    | some ad => simp [Addr.add]
end Go.Sk
