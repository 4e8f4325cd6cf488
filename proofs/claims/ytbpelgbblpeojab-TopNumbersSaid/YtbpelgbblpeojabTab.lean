/- The table of the types and functions that the walks use, held against the program by the kernel. No condition. -/
import Derived.Test.YtbpelgbblpeojabSk4
import Derived.Test.YtbpelgbblpeojabChecked
import Derived.KernelRfl
set_option linter.unusedVariables false
set_option linter.unusedSimpArgs false
namespace Go.Sk
theorem fnil {α : Type} {p : α → Prop} : ∀ e ∈ ([] : List α), p e := fun _ h => by cases h
theorem fc {α : Type} {p : α → Prop} {a : α} {l : List α} (h : p a) (t : ∀ e ∈ l, p e) : ∀ e ∈ a :: l, p e := fun e he => by
  rcases List.mem_cons.1 he with rfl | he
  · exact h
  · exact t e he
end Go.Sk
namespace Go.Proofs.Ytbpelgbblpeojab
open Go.Sk
set_option maxRecDepth 100000
theorem mixed : Try.prog.follows .mixedOrders = true := by kernel_rfl
def T : Tab Try.prog where
  szs := [(9, 1, false), (40, 7, true), (28, 1, false), (31, 5, true), (29, 1, false), (21, 1, false), (42, 1, false), (27, 1, false), (38, 1, false), (23, 1, false), (3, 1, false), (37, 5, true), (45, 9, true), (49, 2, true), (67, 2, true)]
  szs_ok := by kernel_rfl
  flds := [(31, 3, 3, 1, false), (31, 4, 4, 1, false), (45, 0, 0, 1, false), (45, 1, 1, 1, false), (45, 3, 3, 1, false), (31, 0, 0, 1, false), (31, 1, 1, 1, false), (31, 2, 2, 1, false), (37, 0, 0, 1, false), (40, 0, 0, 1, false), (40, 1, 1, 1, false), (45, 2, 2, 1, false), (45, 4, 4, 1, false), (45, 5, 5, 1, false), (45, 6, 6, 1, false), (45, 7, 7, 1, false), (45, 8, 8, 1, false), (40, 2, 2, 1, false), (40, 3, 3, 1, false), (40, 4, 4, 1, false), (40, 5, 5, 1, false), (40, 6, 6, 1, false), (49, 0, 0, 1, false), (49, 1, 1, 1, false), (37, 1, 1, 1, false), (37, 2, 2, 1, false), (37, 3, 3, 1, false), (37, 4, 4, 1, false), (67, 0, 0, 1, false), (67, 1, 1, 1, false)]
  flds_ok := by kernel_rfl
  slcs := [(38, 45, 9, 80), (24, 23, 1, 8), (33, 9, 1, 16), (25, 3, 1, 8), (28, 40, 7, 160), (29, 37, 5, 96), (34, 49, 2, 24), (27, 67, 2, 24)]
  slcs_ok := by kernel_rfl
  zers := [(45, .agg #[.string ByteArray.empty, .int .i32 0, .int .u8 0, .int .u8 0, .string ByteArray.empty, .int .u8 0, .int .i64 0, .int .u8 0, .string ByteArray.empty]), (40, .agg #[.string ByteArray.empty, .slice none 0 0, .slice none 0 0, .slice none 0 0, .slice none 0 0, .slice none 0 0, .slice none 0 0]), (31, .agg #[.string ByteArray.empty, .string ByteArray.empty, .slice none 0 0, .slice none 0 0, .slice none 0 0]), (49, .agg #[.string ByteArray.empty, .int .i32 0]), (37, .agg #[.string ByteArray.empty, .slice none 0 0, .bool false, .slice none 0 0, .slice none 0 0]), (9, .string ByteArray.empty), (23, .int .i64 0), (3, .int .i64 0), (67, .agg #[.string ByteArray.empty, .bool false])]
  zers_ok := by kernel_rfl
  plcs := [(45, [(0, 1), (1, 1), (2, 1), (3, 1), (4, 1), (5, 1), (6, 1), (7, 1), (8, 1)]), (40, [(0, 1), (1, 1), (2, 1), (3, 1), (4, 1), (5, 1), (6, 1)]), (31, [(0, 1), (1, 1), (2, 1), (3, 1), (4, 1)]), (49, [(0, 1), (1, 1)]), (37, [(0, 1), (1, 1), (2, 1), (3, 1), (4, 1)]), (67, [(0, 1), (1, 1)])]
  plcs_ok := by kernel_rfl
  ints := []
  ints_ok := by kernel_rfl
  kinds := [(9, 2)]
  kinds_ok := by kernel_rfl
  funs := [(11, true), (12, true), (13, true), (14, true), (4, true), (5, true), (6, true), (7, true), (8, true), (9, true), (10, true)]
  funs_ok := fc Try.call11 (fc Try.call12 (fc Try.call13 (fc Try.call14 (fc Try.call4 (fc Try.call5 (fc Try.call6 (fc Try.call7 (fc Try.call8 (fc Try.call9 (fc Try.call10 fnil))))))))))
end Go.Proofs.Ytbpelgbblpeojab
