/- The closed head of layer 3's laws reckoned. No condition. -/
import Derived.Test.YtlamhjlijoampaaGreatDoorX0
set_option linter.unusedVariables false
set_option linter.unusedSimpArgs false
namespace Go.Proofs.YtlamhjlijoampaaGreatDoor
open Go.Sk Go.Xs
set_option maxRecDepth 1000000
theorem works_run : isTrue (callN CX 2000 (fun _ _ _ => none) 60 6 [] (hp0 CX.G)) = true := by kernel_rfl
theorem works_fn {B : World} {R : List HP} (h : laidMetH Tryz.prog laidL B) : Sp B Tryz.prog 6 [] R [] (fun v H' => v = .bool true ∧ H' = []) :=
  sp_true (C := CX) mixed (CX.ok h) CX.fok (fun B F _ => no_sp B F) works_run
end Go.Proofs.YtlamhjlijoampaaGreatDoor
