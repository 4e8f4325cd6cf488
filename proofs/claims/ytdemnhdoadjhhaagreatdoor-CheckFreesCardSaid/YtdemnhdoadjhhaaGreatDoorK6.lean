/- The arguments of this seat's laws: lists of bytes, of integers; the kinds of the program's types. No condition. -/
import Derived.Test.YtdemnhdoadjhhaaGreatDoorK5
import Derived.Test.YtdemnhdoadjhhaaGreatDoorTab
import Derived.Test.YtdemnhdoadjhhaaGreatDoorSkB
set_option linter.unusedVariables false
set_option linter.unusedSimpArgs false
namespace Go.Proofs.YtdemnhdoadjhhaaGreatDoor
open Go.Sk Go.ChangeShapes Go.WideShapes Go.ChangeAt Go.RowKit
set_option maxRecDepth 100000
theorem rowed : laidOutB Tryz.prog = true := by kernel_rfl
theorem mapped : mapsRowed Tryz.prog = true := by kernel_rfl
theorem kids : Kids Tryz.prog (· < Tryz.prog.types.size) := kids_rows rowed mapped
theorem fullB : ((List.range Tryz.prog.types.size).all fun t => match Tryz.prog.underlying t with | some (.slice e) => decide (0 < Tryz.prog.cellsOf e) | _ => true) = true := by kernel_rfl
theorem full {t e : TypeId} (h : t < Tryz.prog.types.size) (he : Tryz.prog.underlying t = some (.slice e)) : 0 < Tryz.prog.cellsOf e := slices_full_of Tryz.prog fullB t e h he
end Go.Proofs.YtdemnhdoadjhhaaGreatDoor
namespace Go.Sk
open Go.ChangeShapes Go.WideShapes Go.ChangeAt Go.RowKit
theorem Sp.law2 {P : Program} {W : World} {f : FuncId} {vs : List Value} {v : Value} (h : Sp W P f vs [] [] (fun u H' => u = v ∧ H' = [])) : Calls P f vs.toArray W fun e w' => e = .returned v ∧ Sat W [] w' :=
  (h W (Sat.refl W)).mono fun _ _ ⟨_, _, he, ⟨hv, hh⟩, hs⟩ => ⟨by rw [he, hv], by subst hh; exact hs⟩
end Go.Sk
