/- The table of the types and functions that the walks use, held against the program by the kernel. No condition. -/
import Derived.Test.YtclcnhfponjdaaaGreatDoorSk4
import Derived.Test.YtclcnhfponjdaaaGreatDoorChecked
import Derived.KernelRfl
set_option linter.unusedVariables false
set_option linter.unusedSimpArgs false
namespace Go.Sk
theorem fnil {α : Type} {p : α → Prop} : ∀ e ∈ ([] : List α), p e := fun _ h => by cases h
theorem fc {α : Type} {p : α → Prop} {a : α} {l : List α} (h : p a) (t : ∀ e ∈ l, p e) : ∀ e ∈ a :: l, p e := fun e he => by
  rcases List.mem_cons.1 he with rfl | he
  · exact h
  · exact t e he
end Go.Sk
namespace Go.Proofs.YtclcnhfponjdaaaGreatDoor
open Go.Sk
set_option maxRecDepth 100000
theorem mixed : Tryz.prog.follows .mixedOrders = true := by kernel_rfl
def T : Tab Tryz.prog where
  szs := [(5, 1, false)]
  szs_ok := by kernel_rfl
  flds := []
  flds_ok := by kernel_rfl
  slcs := [(23, 5, 1, 1)]
  slcs_ok := by kernel_rfl
  zers := [(5, .int .u8 0)]
  zers_ok := by kernel_rfl
  plcs := []
  plcs_ok := by kernel_rfl
  ints := [(3, .i64), (5, .u8)]
  ints_ok := by kernel_rfl
  kinds := [(4, 3), (23, 4)]
  kinds_ok := by kernel_rfl
  funs := []
  funs_ok := fnil
end Go.Proofs.YtclcnhfponjdaaaGreatDoor
