/- The table of the types and functions that the walks use, held against the program by the kernel. No condition. -/
import Derived.Test.YtdemnhdoadjhhaaGreatDoorSkA
import Derived.Test.YtdemnhdoadjhhaaGreatDoorChecked
import Derived.KernelRfl
set_option linter.unusedVariables false
set_option linter.unusedSimpArgs false
namespace Go.Sk
theorem fnil {α : Type} {p : α → Prop} : ∀ e ∈ ([] : List α), p e := fun _ h => by cases h
theorem fc {α : Type} {p : α → Prop} {a : α} {l : List α} (h : p a) (t : ∀ e ∈ l, p e) : ∀ e ∈ a :: l, p e := fun e he => by
  rcases List.mem_cons.1 he with rfl | he
  · exact h
  · exact t e he
end Go.Sk
namespace Go.Proofs.YtdemnhdoadjhhaaGreatDoor
open Go.Sk
set_option maxRecDepth 100000
theorem mixed : Tryz.prog.follows .mixedOrders = true := by kernel_rfl
def T : Tab Tryz.prog where
  szs := [(9, 1, false), (70, 1, false), (69, 1, false), (21, 1, false), (68, 1, false), (23, 1, false), (22, 1, false), (24, 1, false), (107, 1, false), (72, 7, true), (87, 9, true), (158, 2, true), (26, 5, true), (109, 5, true), (94, 2, true), (111, 2, true), (4, 1, false)]
  szs_ok := by kernel_rfl
  flds := [(72, 1, 1, 1, false), (26, 2, 2, 1, false), (72, 5, 5, 1, false), (109, 1, 1, 1, false), (26, 3, 3, 1, false), (109, 3, 3, 1, false), (72, 2, 2, 1, false), (26, 4, 4, 1, false), (26, 1, 1, 1, false), (72, 6, 6, 1, false), (72, 4, 4, 1, false), (72, 3, 3, 1, false), (109, 4, 4, 1, false), (26, 0, 0, 1, false), (72, 0, 0, 1, false), (109, 0, 0, 1, false), (158, 1, 1, 1, false), (158, 0, 0, 1, false), (94, 0, 0, 1, false), (87, 1, 1, 1, false), (87, 0, 0, 1, false), (111, 0, 0, 1, false), (109, 2, 2, 1, false), (87, 4, 4, 1, false), (87, 8, 8, 1, false), (94, 1, 1, 1, false), (87, 2, 2, 1, false), (87, 3, 3, 1, false), (87, 5, 5, 1, false), (87, 6, 6, 1, false), (87, 7, 7, 1, false), (111, 1, 1, 1, false)]
  flds_ok := by kernel_rfl
  slcs := [(23, 72, 7, 160), (29, 26, 5, 104), (24, 109, 5, 96), (70, 158, 2, 8), (69, 9, 1, 16), (68, 87, 9, 80), (22, 94, 2, 24), (73, 21, 1, 4), (107, 111, 2, 24)]
  slcs_ok := by kernel_rfl
  zers := [(158, .agg #[.int .i32 0, .int .i32 0]), (26, .agg #[.string ByteArray.empty, .string ByteArray.empty, .slice none 0 0, .slice none 0 0, .slice none 0 0]), (87, .agg #[.string ByteArray.empty, .int .i32 0, .int .u8 0, .int .u8 0, .string ByteArray.empty, .int .u8 0, .int .i64 0, .int .u8 0, .string ByteArray.empty]), (72, .agg #[.string ByteArray.empty, .slice none 0 0, .slice none 0 0, .slice none 0 0, .slice none 0 0, .slice none 0 0, .slice none 0 0]), (109, .agg #[.string ByteArray.empty, .slice none 0 0, .bool false, .slice none 0 0, .slice none 0 0]), (94, .agg #[.string ByteArray.empty, .bool false]), (111, .agg #[.string ByteArray.empty, .int .i32 0]), (21, .int .i32 0), (4, .bool false), (9, .string ByteArray.empty)]
  zers_ok := by kernel_rfl
  plcs := [(158, [(0, 1), (1, 1)]), (26, [(0, 1), (1, 1), (2, 1), (3, 1), (4, 1)]), (87, [(0, 1), (1, 1), (2, 1), (3, 1), (4, 1), (5, 1), (6, 1), (7, 1), (8, 1)]), (72, [(0, 1), (1, 1), (2, 1), (3, 1), (4, 1), (5, 1), (6, 1)]), (109, [(0, 1), (1, 1), (2, 1), (3, 1), (4, 1)]), (94, [(0, 1), (1, 1)]), (111, [(0, 1), (1, 1)])]
  plcs_ok := by kernel_rfl
  ints := [(2, .i64), (21, .i32)]
  ints_ok := by kernel_rfl
  kinds := [(9, 2), (4, 3)]
  kinds_ok := by kernel_rfl
  funs := [(22, true), (88, true), (20, true), (99, true), (100, true), (33, true), (34, true), (46, true), (47, true), (48, true), (49, true), (87, true), (32, true), (31, true), (21, true), (98, true), (81, true), (80, true), (82, true), (8, true), (9, true), (10, true), (13, true), (14, true), (130, true)]
  funs_ok := fc Tryz.call22 (fc Tryz.call88 (fc Tryz.call20 (fc Tryz.call99 (fc Tryz.call100 (fc Tryz.call33 (fc Tryz.call34 (fc Tryz.call46 (fc Tryz.call47 (fc Tryz.call48 (fc Tryz.call49 (fc Tryz.call87 (fc Tryz.call32 (fc Tryz.call31 (fc Tryz.call21 (fc Tryz.call98 (fc Tryz.call81 (fc Tryz.call80 (fc Tryz.call82 (fc Tryz.call8 (fc Tryz.call9 (fc Tryz.call10 (fc Tryz.call13 (fc Tryz.call14 (fc Tryz.call130 fnil))))))))))))))))))))))))
end Go.Proofs.YtdemnhdoadjhhaaGreatDoor
