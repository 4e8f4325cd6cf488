/- awake reckoned. No condition. -/
import Derived.Test.YtdemnhdoadjhhaaGreatDoorX0
set_option linter.unusedVariables false
set_option linter.unusedSimpArgs false
namespace Go.Proofs.YtdemnhdoadjhhaaGreatDoor
open Go.Sk Go.Xs
set_option maxRecDepth 1000000
theorem awake_run : isTrue (callN CX 2000 (fun _ _ _ => none) 60 8 [] (hp0 CX.G)) = true := by kernel_rfl
theorem awake_fn {B : World} (hT : laidMetH Tryz.prog laidL B) (R : List HP) : Sp B Tryz.prog 8 [] R [] (fun v H' => v = .bool true ∧ H' = []) :=
  sp_true (C := CX) mixed (CX.ok hT) CX.fok (fun B F _ => no_sp B F) awake_run
end Go.Proofs.YtdemnhdoadjhhaaGreatDoor
