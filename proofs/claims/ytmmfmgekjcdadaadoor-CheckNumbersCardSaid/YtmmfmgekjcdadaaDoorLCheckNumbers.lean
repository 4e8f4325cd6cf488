/- The law CheckNumbers reckoned. No condition. -/
import Derived.Test.YtmmfmgekjcdadaaDoorX0
set_option linter.unusedVariables false
set_option linter.unusedSimpArgs false
namespace Go.Proofs.YtmmfmgekjcdadaaDoor
open Go.Sk Go.Xs
set_option maxRecDepth 1000000
theorem checkNumbers_run : isTrue (callN CX 200 (fun _ _ _ => none) 60 3 [] (hp0 CX.G)) = true := by kernel_rfl
theorem checkNumbers_law {B : World} {R : List HP} (hT : Lib.Utf8Tabs 1 2 B) : Sp B Tryd.prog 3 [] R [] (fun v H' => v = .bool true ∧ H' = []) :=
  sp_true (C := CX) mixed (CX.ok hT) CX.fok (fun B F _ => no_sp B F) checkNumbers_run
end Go.Proofs.YtmmfmgekjcdadaaDoor
