/- The table of the types and functions that the walks use, held against the program by the kernel. No condition. -/
import Derived.Test.YtbpelgbblpeojaaDoorSkA
import Derived.Test.YtbpelgbblpeojaaDoorChecked
import Derived.KernelRfl
set_option linter.unusedVariables false
set_option linter.unusedSimpArgs false
namespace Go.Sk
theorem fnil {α : Type} {p : α → Prop} : ∀ e ∈ ([] : List α), p e := fun _ h => by cases h
theorem fc {α : Type} {p : α → Prop} {a : α} {l : List α} (h : p a) (t : ∀ e ∈ l, p e) : ∀ e ∈ a :: l, p e := fun e he => by
  rcases List.mem_cons.1 he with rfl | he
  · exact h
  · exact t e he
end Go.Sk
namespace Go.Proofs.YtbpelgbblpeojaaDoor
open Go.Sk
set_option maxRecDepth 100000
theorem mixed : Tryd.prog.follows .mixedOrders = true := by kernel_rfl
def T : Tab Tryd.prog where
  szs := [(9, 1, false), (3, 1, false), (23, 1, false), (5, 1, false), (4, 1, false), (28, 1, false), (35, 1, false), (57, 1, false), (98, 2, true), (99, 32, true)]
  szs_ok := by kernel_rfl
  flds := [(59, 1, 1, 1, false), (59, 0, 0, 1, false), (98, 0, 0, 1, false), (98, 1, 1, 1, false)]
  flds_ok := by kernel_rfl
  slcs := [(23, 5, 1, 1), (28, 9, 1, 16), (38, 3, 1, 8)]
  slcs_ok := by kernel_rfl
  zers := [(59, .agg #[.pointer none, .slice none 0 0]), (3, .int .i64 0), (98, .agg #[.int .u8 0, .int .u8 0]), (4, .bool false), (9, .string ByteArray.empty), (28, .slice none 0 0), (99, .agg #[.int .u8 0, .int .u8 0, .int .u8 0, .int .u8 0, .int .u8 0, .int .u8 0, .int .u8 0, .int .u8 0, .int .u8 0, .int .u8 0, .int .u8 0, .int .u8 0, .int .u8 0, .int .u8 0, .int .u8 0, .int .u8 0, .int .u8 0, .int .u8 0, .int .u8 0, .int .u8 0, .int .u8 0, .int .u8 0, .int .u8 0, .int .u8 0, .int .u8 0, .int .u8 0, .int .u8 0, .int .u8 0, .int .u8 0, .int .u8 0, .int .u8 0, .int .u8 0]), (35, .nilFunc), (5, .int .u8 0)]
  zers_ok := by kernel_rfl
  plcs := [(59, [(0, 1), (1, 1)]), (98, [(0, 1), (1, 1)])]
  plcs_ok := by kernel_rfl
  ints := [(5, .u8), (3, .i64), (21, .i32), (104, .u32)]
  ints_ok := by kernel_rfl
  kinds := [(9, 2), (23, 4), (4, 3), (57, 1), (35, 5)]
  kinds_ok := by kernel_rfl
  funs := [(56, true), (70, true), (15, true), (81, true), (57, true), (30, true), (18, true), (28, true), (92, true), (33, true), (83, true), (29, true), (64, true), (22, true), (49, true), (93, true), (109, true), (34, true), (35, true), (26, true), (27, true), (41, true), (17, true), (51, true), (55, true), (58, true), (88, true), (67, true), (36, true), (38, true), (40, true), (42, true), (43, true), (45, true), (60, true), (65, true), (20, true), (69, true), (71, true), (72, true), (77, true), (24, true), (25, true), (87, true), (94, true), (99, true), (102, true), (106, true), (110, true), (112, true), (113, true), (115, true), (37, true), (39, true), (44, true), (46, true), (47, true), (48, true), (50, true), (52, true), (53, true), (59, true), (61, true), (62, true), (63, true), (66, true), (68, true), (16, true), (19, true), (73, true), (74, true), (75, true), (76, true), (78, true), (79, true), (21, true), (23, true), (80, true), (82, true), (84, true), (85, true), (86, true), (89, true), (90, true), (91, true), (95, true), (97, true), (98, true), (100, true), (101, true), (31, true), (32, true), (103, true), (104, true), (108, true)]
  funs_ok := fc Tryd.call56 (fc Tryd.call70 (fc Tryd.call15 (fc Tryd.call81 (fc Tryd.call57 (fc Tryd.call30 (fc Tryd.call18 (fc Tryd.call28 (fc Tryd.call92 (fc Tryd.call33 (fc Tryd.call83 (fc Tryd.call29 (fc Tryd.call64 (fc Tryd.call22 (fc Tryd.call49 (fc Tryd.call93 (fc Tryd.call109 (fc Tryd.call34 (fc Tryd.call35 (fc Tryd.call26 (fc Tryd.call27 (fc Tryd.call41 (fc Tryd.call17 (fc Tryd.call51 (fc Tryd.call55 (fc Tryd.call58 (fc Tryd.call88 (fc Tryd.call67 (fc Tryd.call36 (fc Tryd.call38 (fc Tryd.call40 (fc Tryd.call42 (fc Tryd.call43 (fc Tryd.call45 (fc Tryd.call60 (fc Tryd.call65 (fc Tryd.call20 (fc Tryd.call69 (fc Tryd.call71 (fc Tryd.call72 (fc Tryd.call77 (fc Tryd.call24 (fc Tryd.call25 (fc Tryd.call87 (fc Tryd.call94 (fc Tryd.call99 (fc Tryd.call102 (fc Tryd.call106 (fc Tryd.call110 (fc Tryd.call112 (fc Tryd.call113 (fc Tryd.call115 (fc Tryd.call37 (fc Tryd.call39 (fc Tryd.call44 (fc Tryd.call46 (fc Tryd.call47 (fc Tryd.call48 (fc Tryd.call50 (fc Tryd.call52 (fc Tryd.call53 (fc Tryd.call59 (fc Tryd.call61 (fc Tryd.call62 (fc Tryd.call63 (fc Tryd.call66 (fc Tryd.call68 (fc Tryd.call16 (fc Tryd.call19 (fc Tryd.call73 (fc Tryd.call74 (fc Tryd.call75 (fc Tryd.call76 (fc Tryd.call78 (fc Tryd.call79 (fc Tryd.call21 (fc Tryd.call23 (fc Tryd.call80 (fc Tryd.call82 (fc Tryd.call84 (fc Tryd.call85 (fc Tryd.call86 (fc Tryd.call89 (fc Tryd.call90 (fc Tryd.call91 (fc Tryd.call95 (fc Tryd.call97 (fc Tryd.call98 (fc Tryd.call100 (fc Tryd.call101 (fc Tryd.call31 (fc Tryd.call32 (fc Tryd.call103 (fc Tryd.call104 (fc Tryd.call108 fnil))))))))))))))))))))))))))))))))))))))))))))))))))))))))))))))))))))))))))))))))))))))))))))))
end Go.Proofs.YtbpelgbblpeojaaDoor
