/- The table of the types and functions that the walks use, held against the program by the kernel. No condition. -/
import Derived.Test.YtdemnhdoadjhhaaDoorSkA
import Derived.Test.YtdemnhdoadjhhaaDoorChecked
import Derived.KernelRfl
set_option linter.unusedVariables false
set_option linter.unusedSimpArgs false
namespace Go.Sk
theorem fnil {α : Type} {p : α → Prop} : ∀ e ∈ ([] : List α), p e := fun _ h => by cases h
theorem fc {α : Type} {p : α → Prop} {a : α} {l : List α} (h : p a) (t : ∀ e ∈ l, p e) : ∀ e ∈ a :: l, p e := fun e he => by
  rcases List.mem_cons.1 he with rfl | he
  · exact h
  · exact t e he
end Go.Sk
namespace Go.Proofs.YtdemnhdoadjhhaaDoor
open Go.Sk
set_option maxRecDepth 100000
theorem mixed : Tryd.prog.follows .mixedOrders = true := by kernel_rfl
def T : Tab Tryd.prog where
  szs := [(9, 1, false), (21, 1, false), (46, 3, true), (43, 7, true), (62, 9, true), (67, 5, true), (26, 5, true), (31, 2, true), (103, 1, false), (40, 1, false), (3, 1, false), (39, 1, false), (41, 1, false), (24, 1, false), (65, 1, false), (23, 1, false), (69, 1, false), (59, 1, false), (64, 2, true), (80, 2, true), (58, 1, false), (22, 1, false), (35, 1, false), (29, 1, false), (71, 1, false), (70, 1, false), (102, 1, false), (5, 1, false), (48, 2, true), (44, 1, false), (54, 1, false), (60, 1, false), (140, 2, true), (52, 2, true), (4, 1, false)]
  szs_ok := by kernel_rfl
  flds := [(26, 1, 1, 1, false), (105, 1, 1, 1, false), (43, 1, 1, 1, false), (62, 0, 0, 1, false), (67, 1, 1, 1, false), (80, 1, 1, 1, false), (62, 8, 8, 1, false), (26, 0, 0, 1, false), (48, 0, 0, 1, false), (80, 0, 0, 1, false), (43, 5, 5, 1, false), (43, 2, 2, 1, false), (64, 0, 0, 1, false), (26, 4, 4, 1, false), (62, 1, 1, 1, false), (62, 2, 2, 1, false), (43, 0, 0, 1, false), (67, 0, 0, 1, false), (26, 2, 2, 1, false), (26, 3, 3, 1, false), (46, 0, 0, 1, false), (31, 0, 0, 1, false), (64, 1, 1, 1, false), (62, 3, 3, 1, false), (62, 6, 6, 1, false), (62, 4, 4, 1, false), (43, 6, 6, 1, false), (43, 4, 4, 1, false), (43, 3, 3, 1, false), (67, 3, 3, 1, false), (67, 4, 4, 1, false), (105, 0, 0, 1, false), (46, 1, 1, 1, false), (56, 0, 0, 1, false), (62, 5, 5, 1, false), (62, 7, 7, 1, false), (52, 0, 0, 2, true), (67, 2, 2, 1, false), (140, 0, 0, 1, false), (140, 1, 1, 1, false), (48, 1, 1, 1, false), (46, 2, 2, 1, false), (31, 1, 1, 1, false)]
  flds_ok := by kernel_rfl
  slcs := [(40, 9, 1, 16), (35, 46, 3, 40), (23, 43, 7, 160), (24, 67, 5, 96), (39, 62, 9, 80), (65, 64, 2, 24), (103, 5, 1, 1), (41, 80, 2, 8), (37, 21, 1, 4), (22, 48, 2, 24), (89, 3, 1, 8)]
  slcs_ok := by kernel_rfl
  zers := [(31, .agg #[.int .i64 0, .string ByteArray.empty]), (62, .agg #[.string ByteArray.empty, .int .i32 0, .int .u8 0, .int .u8 0, .string ByteArray.empty, .int .u8 0, .int .i64 0, .int .u8 0, .string ByteArray.empty]), (43, .agg #[.string ByteArray.empty, .slice none 0 0, .slice none 0 0, .slice none 0 0, .slice none 0 0, .slice none 0 0, .slice none 0 0]), (67, .agg #[.string ByteArray.empty, .slice none 0 0, .bool false, .slice none 0 0, .slice none 0 0]), (26, .agg #[.string ByteArray.empty, .string ByteArray.empty, .slice none 0 0, .slice none 0 0, .slice none 0 0]), (3, .int .i64 0), (64, .agg #[.string ByteArray.empty, .int .i32 0]), (80, .agg #[.int .i32 0, .int .i32 0]), (52, .agg #[.int .i64 0, .string ByteArray.empty]), (48, .agg #[.string ByteArray.empty, .bool false]), (46, .agg #[.string ByteArray.empty, .int .u8 0, .string ByteArray.empty]), (105, .agg #[.pointer none, .slice none 0 0]), (21, .int .i32 0), (56, .agg #[.map none]), (35, .slice none 0 0), (69, .nilFunc), (70, .nilFunc), (71, .nilFunc), (140, .agg #[.int .u8 0, .int .u8 0]), (4, .bool false), (9, .string ByteArray.empty), (5, .int .u8 0)]
  zers_ok := by kernel_rfl
  plcs := [(31, [(0, 1), (1, 1)]), (62, [(0, 1), (1, 1), (2, 1), (3, 1), (4, 1), (5, 1), (6, 1), (7, 1), (8, 1)]), (43, [(0, 1), (1, 1), (2, 1), (3, 1), (4, 1), (5, 1), (6, 1)]), (67, [(0, 1), (1, 1), (2, 1), (3, 1), (4, 1)]), (26, [(0, 1), (1, 1), (2, 1), (3, 1), (4, 1)]), (64, [(0, 1), (1, 1)]), (80, [(0, 1), (1, 1)]), (52, [(0, 2)]), (48, [(0, 1), (1, 1)]), (46, [(0, 1), (1, 1), (2, 1)]), (105, [(0, 1), (1, 1)]), (56, [(0, 1)]), (140, [(0, 1), (1, 1)])]
  plcs_ok := by kernel_rfl
  ints := [(5, .u8), (21, .i32), (3, .i64), (125, .u64), (142, .u32), (2, .i64)]
  ints_ok := by kernel_rfl
  kinds := [(9, 2), (102, 1)]
  kinds_ok := by kernel_rfl
  funs := [(27, true), (15, true), (6, true), (38, true), (52, true), (65, true), (29, true), (37, true), (44, true), (49, true), (71, true), (76, true), (82, true), (26, true), (11, true), (10, true), (28, true), (30, true), (31, true), (34, true), (35, true), (5, true), (39, true), (40, true), (42, true), (45, true), (50, true), (51, true), (54, true), (55, true), (7, true), (25, true), (58, true), (78, true), (23, true), (83, true), (89, true), (32, true), (33, true), (21, true), (22, true), (20, true), (36, true), (4, true), (41, true), (43, true), (47, true), (46, true), (48, true), (53, true), (56, true), (8, true), (9, true), (57, true), (59, true), (60, true), (61, true), (62, true), (63, true), (64, true), (66, true), (67, true), (69, true), (68, true), (70, true), (72, true), (73, true), (74, true), (75, true), (12, true), (13, true), (77, true), (79, true), (85, true), (86, true), (87, true), (88, true), (14, true), (16, true), (17, true), (18, true), (19, true), (91, true), (92, true), (93, true), (24, true), (95, true)]
  funs_ok := fc Tryd.call27 (fc Tryd.call15 (fc Tryd.call6 (fc Tryd.call38 (fc Tryd.call52 (fc Tryd.call65 (fc Tryd.call29 (fc Tryd.call37 (fc Tryd.call44 (fc Tryd.call49 (fc Tryd.call71 (fc Tryd.call76 (fc Tryd.call82 (fc Tryd.call26 (fc Tryd.call11 (fc Tryd.call10 (fc Tryd.call28 (fc Tryd.call30 (fc Tryd.call31 (fc Tryd.call34 (fc Tryd.call35 (fc Tryd.call5 (fc Tryd.call39 (fc Tryd.call40 (fc Tryd.call42 (fc Tryd.call45 (fc Tryd.call50 (fc Tryd.call51 (fc Tryd.call54 (fc Tryd.call55 (fc Tryd.call7 (fc Tryd.call25 (fc Tryd.call58 (fc Tryd.call78 (fc Tryd.call23 (fc Tryd.call83 (fc Tryd.call89 (fc Tryd.call32 (fc Tryd.call33 (fc Tryd.call21 (fc Tryd.call22 (fc Tryd.call20 (fc Tryd.call36 (fc Tryd.call4 (fc Tryd.call41 (fc Tryd.call43 (fc Tryd.call47 (fc Tryd.call46 (fc Tryd.call48 (fc Tryd.call53 (fc Tryd.call56 (fc Tryd.call8 (fc Tryd.call9 (fc Tryd.call57 (fc Tryd.call59 (fc Tryd.call60 (fc Tryd.call61 (fc Tryd.call62 (fc Tryd.call63 (fc Tryd.call64 (fc Tryd.call66 (fc Tryd.call67 (fc Tryd.call69 (fc Tryd.call68 (fc Tryd.call70 (fc Tryd.call72 (fc Tryd.call73 (fc Tryd.call74 (fc Tryd.call75 (fc Tryd.call12 (fc Tryd.call13 (fc Tryd.call77 (fc Tryd.call79 (fc Tryd.call85 (fc Tryd.call86 (fc Tryd.call87 (fc Tryd.call88 (fc Tryd.call14 (fc Tryd.call16 (fc Tryd.call17 (fc Tryd.call18 (fc Tryd.call19 (fc Tryd.call91 (fc Tryd.call92 (fc Tryd.call93 (fc Tryd.call24 (fc Tryd.call95 fnil))))))))))))))))))))))))))))))))))))))))))))))))))))))))))))))))))))))))))))))))))))))
end Go.Proofs.YtdemnhdoadjhhaaDoor
