/- The table of the types and functions that the walks use, held against the program by the kernel. No condition. -/
import Derived.Test.YtlamhjlijoampaaGreatDoorSkA
import Derived.Test.YtlamhjlijoampaaGreatDoorChecked
import Derived.KernelRfl
set_option linter.unusedVariables false
set_option linter.unusedSimpArgs false
namespace Go.Sk
theorem fnil {α : Type} {p : α → Prop} : ∀ e ∈ ([] : List α), p e := fun _ h => by cases h
theorem fc {α : Type} {p : α → Prop} {a : α} {l : List α} (h : p a) (t : ∀ e ∈ l, p e) : ∀ e ∈ a :: l, p e := fun e he => by
  rcases List.mem_cons.1 he with rfl | he
  · exact h
  · exact t e he
end Go.Sk
namespace Go.Proofs.YtlamhjlijoampaaGreatDoor
open Go.Sk
set_option maxRecDepth 100000
theorem mixed : Tryz.prog.follows .mixedOrders = true := by kernel_rfl
def T : Tab Tryz.prog where
  szs := []
  szs_ok := by kernel_rfl
  flds := []
  flds_ok := by kernel_rfl
  slcs := []
  slcs_ok := by kernel_rfl
  zers := []
  zers_ok := by kernel_rfl
  plcs := []
  plcs_ok := by kernel_rfl
  ints := [(25, .u64), (2, .i64), (21, .i32)]
  ints_ok := by kernel_rfl
  kinds := [(4, 3)]
  kinds_ok := by kernel_rfl
  funs := [(9, true), (20, true), (19, true), (6, true), (7, true), (8, true), (17, true), (16, true), (18, true)]
  funs_ok := fc Tryz.call9 (fc Tryz.call20 (fc Tryz.call19 (fc Tryz.call6 (fc Tryz.call7 (fc Tryz.call8 (fc Tryz.call17 (fc Tryz.call16 (fc Tryz.call18 fnil))))))))
end Go.Proofs.YtlamhjlijoampaaGreatDoor
