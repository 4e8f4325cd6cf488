/- The law DescsNames reckoned. No condition. -/
import Derived.Test.YtclcnhfponjdaaaGreatDoorRows
import Derived.ProofKit
import Derived.Test.YtclcnhfponjdaaaGreatDoorIns
import Derived.Test.YtclcnhfponjdaaaGreatDoorXi1
import Derived.Test.YtclcnhfponjdaaaGreatDoorXu1
set_option linter.unusedVariables false
set_option linter.unusedSimpArgs false
namespace Go.Proofs.YtclcnhfponjdaaaGreatDoor
open Go.Sk Go.Xs
set_option maxRecDepth 1000000
/-- The reckoning's frame: the program, its two tables, its functions. -/
noncomputable def CX : Ctx := { P := Tryz.prog, G := 2, tab := tabU 0 1, fns := fnsOf Tryz.prog }
theorem names_ok : Tryz.prog.funcs.toList.all (fun fn => !(fn.name == "runtime.NumGoroutine")) = true := by kernel_rfl
theorem CX.fok : CX.FOK := fun _ _ h => fnsOf_ok names_ok h
theorem CX.ok {B : World} (hT : Lib.Utf8Tabs 0 1 B) : CX.OK (fun b => B.heap[b]?) := fun _ _ _ hl _ _ hj => ⟨(tabU_ok hT hl hj).1, fun _ hw => cell_kept hw (tabU_ok hT hl hj).2⟩
theorem ins_sp (B : World) (F : Xs.PH) (_ : CX.OK F) : SpOK B F CX (spIns 278 5) := spIns_ok fun B R a av c cv n m i l l' hi hnm => insert_fn (B := B) (R := R) (a := a) (av := av) (c := c) (cv := cv) (n := n) (m := m) (i := i) (l := l) (l' := l') hi hnm
theorem names_run : isTrue (callN CX 200 (spIns 278 5) 60 3 [] (hp0 CX.G)) = true := by kernel_rfl
theorem names_law {B : World} {R : List HP} (hT : Lib.Utf8Tabs 0 1 B) : Sp B Tryz.prog 3 [] R [] (fun v H' => v = .bool true ∧ H' = []) :=
  sp_true (C := CX) mixed (CX.ok hT) CX.fok ins_sp names_run
end Go.Proofs.YtclcnhfponjdaaaGreatDoor
