/- The law TextsNumbers walked; the two tables of the library that the rows list: what they hold, and a world that holds them. No condition. -/
import Derived.Test.YtbpelgbblpeojaaDoorRows
import Derived.ProofKit
import Derived.LaidMore
import Derived.LaidLaws
import Derived.LaidHandle
import Derived.MakeChecks
import Derived.Lib.LaidU8
import Derived.Lib.LaidIn
import Derived.Test.YtbpelgbblpeojaaDoorB9
set_option linter.unusedVariables false
set_option linter.unusedSimpArgs false
namespace Go.Proofs.YtbpelgbblpeojaaDoor
open Go.Sk
set_option maxRecDepth 100000
attribute [local irreducible] Cs Own Ex Pu Yld RT LJ QJ AtQ CT Rd QSp Sp FinQ Then LoopQ CutQ DT TakeQ EffQ
variable {B : World} {R : List HP}
theorem numbers_law (hT : Lib.Utf8Tabs 0 1 B) : Sp B Tryd.prog 3 [] R [] (fun v H' => v = .bool true ∧ H' = []) := by
  refine Sp.body Tryd.func3 rfl Tryd.ntmps3 (by simp) ?_
  simp only [argE, List.cons_append, List.nil_append, Nat.zero_add, Nat.reduceAdd]
  repeat' (first | ((first | refine vc_id ?_ | (refine RT.id ?_; refine RT.c T ?_)); (conv => whnf); first | (refine RT.id ?_) | (refine ⟨fun hc => ?_, fun hc => ?_⟩ <;> first | (exfalso; omega) | skip) | (apply num_i64; omega; omega) | (apply num_u64; omega; omega) | (apply num_u8; omega; omega) | (apply num_i32; omega; omega) | (apply num_u32; omega; omega) | (apply num_u64m; intro r hr) | (apply num_u8m; intro r hr) | (apply num_u32m; intro r hr) | (intro r hr)) | (refine RT.id ?_; first | (refine RT.nil ?_) | (apply RT.ld T; exact rfl; (focus first|exact S0|exact S1|exact S2|exact S3|exact S4|exact S5|exact S6|exact S7|exact S8|exact S9|exact S10|exact S11|exact S12); exact rfl; exact rfl; exact rfl; exact rfl) | (apply RT.st T; exact rfl; exact rfl; exact rfl; (focus first|exact Q0|exact Q1|exact Q2|exact Q3|exact Q4|exact Q5|exact Q6|exact Q7|exact Q8|exact Q9|exact Q10|exact Q11|exact Q12); (focus repeat constructor); exact rfl; exact rfl) | (apply RT.box; exact rfl; exact rfl; exact rfl; exact rfl; intro b) | (apply RT.alloc T; exact rfl; exact rfl; exact rfl; exact rfl; intro b) | (apply RT.pnil T; exact rfl; exact rfl; exact rfl; exact rfl; exact rfl; exact rfl) | (apply RT.pnnil T; exact rfl; exact rfl; exact rfl; exact rfl; exact rfl; exact rfl) | (refine RT.isPush ?_; refine RT.pushI T rfl rfl rfl (fun a' c' => by first|exact Q0|exact Q1|exact Q2|exact Q3|exact Q4|exact Q5|exact Q6|exact Q7|exact Q8|exact Q9|exact Q10|exact Q11|exact Q12) (by omega) (by omega) rfl rfl rfl rfl (fun a' c' b' c1' hac => ?_)) | (refine RT.build T rfl rfl rfl rfl rfl ?_) | (apply RT.lens T; exact rfl; exact rfl; exact rfl; exact rfl)) | (refine AtQ.id_ ?_; first | (refine AtQ.then_ ?_) | (refine AtQ.then_exit ?_) | (refine AtQ.then_ret ?_) | (refine AtQ.loop_exit ?_) | (refine AtQ.loop_ret ?_) | (refine AtQ.cut_exit ?_) | (refine AtQ.cut_ret ?_) | (refine AtQ.in_n ?_) | (refine AtQ.in_ret ?_) | (refine AtQ.in_eq ?_) | (refine AtQ.in_ne rfl ?_) | (refine AtQ.loopM_exit ?_) | (refine AtQ.loopM_ret ?_) | (refine AtQ.cutM_exit ?_) | (refine AtQ.cutM_ret ?_)) | (refine CT.id_ ?_; first | (refine CT.seq ?_) | (refine CT.region ?_) | (refine CT.quiet mixed (by kernel_rfl) ?_) | (refine CT.cond_t rfl ?_) | (refine CT.cond_f rfl ?_) | (refine CT.skip ?_) | (refine CT.ret ?_) | (refine CT.exit ?_) | (refine CT.block ?_)))
  (refine RT.call T rfl (by repeat (first|exact Fr.nil|(apply Fr.cons;focus (first|exact S0|exact S1|exact S2|exact S3|exact S4|exact S5|exact S6|exact S7|exact S8|exact S9|exact S10|exact S11|exact S12)))) (awake_fn hT) rfl rfl rfl ?_; rintro _ _ ⟨rfl, rfl⟩; try simp only [List.cons_append, List.nil_append])
  repeat' (first | ((first | refine vc_id ?_ | (refine RT.id ?_; refine RT.c T ?_)); (conv => whnf); first | (refine RT.id ?_) | (refine ⟨fun hc => ?_, fun hc => ?_⟩ <;> first | (exfalso; omega) | skip) | (apply num_i64; omega; omega) | (apply num_u64; omega; omega) | (apply num_u8; omega; omega) | (apply num_i32; omega; omega) | (apply num_u32; omega; omega) | (apply num_u64m; intro r hr) | (apply num_u8m; intro r hr) | (apply num_u32m; intro r hr) | (intro r hr)) | (refine RT.id ?_; first | (refine RT.nil ?_) | (apply RT.ld T; exact rfl; (focus first|exact S0|exact S1|exact S2|exact S3|exact S4|exact S5|exact S6|exact S7|exact S8|exact S9|exact S10|exact S11|exact S12); exact rfl; exact rfl; exact rfl; exact rfl) | (apply RT.st T; exact rfl; exact rfl; exact rfl; (focus first|exact Q0|exact Q1|exact Q2|exact Q3|exact Q4|exact Q5|exact Q6|exact Q7|exact Q8|exact Q9|exact Q10|exact Q11|exact Q12); (focus repeat constructor); exact rfl; exact rfl) | (apply RT.box; exact rfl; exact rfl; exact rfl; exact rfl; intro b) | (apply RT.alloc T; exact rfl; exact rfl; exact rfl; exact rfl; intro b) | (apply RT.pnil T; exact rfl; exact rfl; exact rfl; exact rfl; exact rfl; exact rfl) | (apply RT.pnnil T; exact rfl; exact rfl; exact rfl; exact rfl; exact rfl; exact rfl) | (refine RT.isPush ?_; refine RT.pushI T rfl rfl rfl (fun a' c' => by first|exact Q0|exact Q1|exact Q2|exact Q3|exact Q4|exact Q5|exact Q6|exact Q7|exact Q8|exact Q9|exact Q10|exact Q11|exact Q12) (by omega) (by omega) rfl rfl rfl rfl (fun a' c' b' c1' hac => ?_)) | (refine RT.build T rfl rfl rfl rfl rfl ?_) | (apply RT.lens T; exact rfl; exact rfl; exact rfl; exact rfl)) | (refine AtQ.id_ ?_; first | (refine AtQ.then_ ?_) | (refine AtQ.then_exit ?_) | (refine AtQ.then_ret ?_) | (refine AtQ.loop_exit ?_) | (refine AtQ.loop_ret ?_) | (refine AtQ.cut_exit ?_) | (refine AtQ.cut_ret ?_) | (refine AtQ.in_n ?_) | (refine AtQ.in_ret ?_) | (refine AtQ.in_eq ?_) | (refine AtQ.in_ne rfl ?_) | (refine AtQ.loopM_exit ?_) | (refine AtQ.loopM_ret ?_) | (refine AtQ.cutM_exit ?_) | (refine AtQ.cutM_ret ?_)) | (refine CT.id_ ?_; first | (refine CT.seq ?_) | (refine CT.region ?_) | (refine CT.quiet mixed (by kernel_rfl) ?_) | (refine CT.cond_t rfl ?_) | (refine CT.cond_f rfl ?_) | (refine CT.skip ?_) | (refine CT.ret ?_) | (refine CT.exit ?_) | (refine CT.block ?_)))
  exact AtQ.f1 Tryd.results3 rfl rfl (fun w h => h)
theorem own : ownKnob Tryd.prog.godebug = none := by kernel_rfl
theorem laidAcc : (Rows.laid_unicode_utf8_acceptRanges : DataW Unit) = Lib.acceptData := by kernel_rfl
theorem laidFirst : Rows.laid_unicode_utf8_first = Lib.firstData := by kernel_rfl
def laidL : List (String × DataW Unit) := [("unicode/utf8.acceptRanges", Lib.acceptData), ("unicode/utf8.first", Lib.firstData)]
theorem laidL_eq : [("unicode/utf8.acceptRanges", Rows.laid_unicode_utf8_acceptRanges), ("unicode/utf8.first", Rows.laid_unicode_utf8_first)] = laidL := by rw [laidAcc, laidFirst]; rfl
theorem utf8_of {W : World} (h : laidMetH Tryd.prog laidL W) : Lib.Utf8Tabs 0 1 W := by
  rw [MakeChecks.laidMetH_plain _ _ _ (by kernel_rfl)] at h
  exact utf8Tabs_of_reads (ρ := Tryd.lays197_ren) { Tryd.lays197 with } ⟨by kernel_rfl, by kernel_rfl, by kernel_rfl, by kernel_rfl, by kernel_rfl, by kernel_rfl, by kernel_rfl⟩ (Lib.laidMet.reads h (.tail _ (.head _))) (Lib.laidMet.reads h (.head _))
/-- The settled world, the two tables laid. -/
noncomputable def laidWorld (os : Os) : World :=
  let w0 := World.holding Tryd.prog os ⟨#[], #[], []⟩
  let put (h : Array Obj) (g : Nat) (cs : Array Value) : Array Obj := h.modify g fun
    | .cells _ t frozen => .cells cs t frozen
    | o => o
  let h1 := put w0.heap 0 (Lib.firstTab.map fun z => Value.int .u8 z).toArray
  let h2 := put h1 1 ((List.range 16).flatMap fun i => [Value.int .u8 (Lib.accLo i), Value.int .u8 (Lib.accHi i)]).toArray
  { w0 with heap := h2 }
theorem laid_met (os : Os) (args : Array Value) : laidMetH Tryd.prog laidL ((laidWorld os).forCall (fun _ _ => 0) ⟨#[], args, []⟩).memory := by
  rw [MakeChecks.laidMetH_plain _ _ _ (by kernel_rfl)]
  exact (LaidIn.of_run [0, 1] 8 (by kernel_rfl) (by kernel_rfl) (by kernel_rfl) (by kernel_rfl)).met
end Go.Proofs.YtbpelgbblpeojaaDoor
