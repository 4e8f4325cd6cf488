/- The reckoning's frame for this seat: the program, the tables that the walk looks into. No condition. -/
import Derived.Test.YtlamhjlijoampaaGreatDoorRows
import Derived.ProofKit
import Derived.MakeChecks
import Derived.Lib.MakeNoZero
import Derived.Lib.Builder
import Derived.Laws.Externs
import Derived.LaidHandle
import Derived.Test.YtlamhjlijoampaaGreatDoorXsD
import Derived.Test.YtlamhjlijoampaaGreatDoorTab
set_option linter.unusedVariables false
set_option linter.unusedSimpArgs false
namespace Go.Proofs.YtlamhjlijoampaaGreatDoor
open Go.Sk Go.Xs
set_option maxRecDepth 1000000
theorem idok : ∀ g, Nat.beq g 117 = true → ∀ (v : Value) (w : World), (callFunc g #[v]).run Tryz.prog w = .ok (.value v) w := by
  intro g hg v w
  rw [Nat.beq_eq] at hg
  subst hg
  rw [run_callFunc_extern Tryz.func117 (by kernel_rfl) (by kernel_rfl) (by kernel_rfl) (e := Extern.AbiNoEscape.same) (by kernel_rfl)]
  rfl
theorem mnzok : ∀ g e, (bif Nat.beq g 118 then some 5 else none : Option TypeId) = some e → ∀ (n : Nat) (w : World), n ≤ 281474976710656 → ∃ cs : Array Value, (callFunc g #[.int .i64 (n : Int)]).run Tryz.prog w = .ok (.value (.slice (some ⟨w.heap.size, 0, none⟩) n cs.size)) (w.drew.drew.alloc (.cells cs e)) ∧ n ≤ cs.size ∧ (n ≤ maxLen → cs.size ≤ maxLen) := by
  intro g e hg n w hn
  cases hb : Nat.beq g 118 with
  | false => rw [hb] at hg; cases hg
  | true =>
    rw [hb] at hg
    rw [Nat.beq_eq] at hb
    subst hb
    cases hg
    obtain ⟨cs, hrun, hle, hmax⟩ := Lib.run_makeNoZero (P := Tryz.prog) w #[3] 91 5 Tryz.underlying91 n hn
    refine ⟨cs, ?_, hle, hmax⟩
    rw [run_callFunc_extern Tryz.func118 (by kernel_rfl) (by kernel_rfl) (by kernel_rfl) (e := Extern.BytealgMakeNoZero.makeNoZero #[3] #[91]) (by kernel_rfl), hrun]
    rfl
/-- The variables that the walk looks into. -/
noncomputable def tvs : List TabV := [
  ⟨1, "internal/strconv.uint64pow10", 117, Rows.laid_internal_strconv_uint64pow10, flatD Rows.laid_internal_strconv_uint64pow10⟩,
  ⟨3, "internal/strconv.optimize", 4, Rows.laid_internal_strconv_optimize, flatD Rows.laid_internal_strconv_optimize⟩,
  ⟨10, "internal/strconv.float32info", 187, Rows.laid_internal_strconv_float32info, flatD Rows.laid_internal_strconv_float32info⟩,
  ⟨11, "internal/strconv.float64info", 187, Rows.laid_internal_strconv_float64info, flatD Rows.laid_internal_strconv_float64info⟩,
  ⟨12, "internal/strconv.pow10Tab", 201, Rows.laid_internal_strconv_pow10Tab, flatD Rows.laid_internal_strconv_pow10Tab⟩]
/-- What the rows list. -/
def laidL : List (String × DataW Unit) := [("math/bits.deBruijn32tab", Rows.laid_math_bits_deBruijn32tab), ("math/bits.deBruijn64tab", Rows.laid_math_bits_deBruijn64tab), ("internal/strconv.float32info", Rows.laid_internal_strconv_float32info), ("internal/strconv.float64info", Rows.laid_internal_strconv_float64info), ("internal/strconv.optimize", Rows.laid_internal_strconv_optimize), ("internal/strconv.powtab", Rows.laid_internal_strconv_powtab), ("internal/strconv.float64pow10", Rows.laid_internal_strconv_float64pow10), ("internal/strconv.float32pow10", Rows.laid_internal_strconv_float32pow10), ("internal/strconv.uint64pow10", Rows.laid_internal_strconv_uint64pow10), ("unicode/utf8.acceptRanges", Rows.laid_unicode_utf8_acceptRanges), ("strconv.ErrRange", Rows.laid_strconv_ErrRange), ("strconv.ErrSyntax", Rows.laid_strconv_ErrSyntax), ("internal/strconv.leftcheats", Rows.laid_internal_strconv_leftcheats), ("internal/strconv.pow10Tab", Rows.laid_internal_strconv_pow10Tab), ("unicode/utf8.first", Rows.laid_unicode_utf8_first)]
theorem tvs_ok : ∀ x ∈ tvs, TabV.Fit Tryz.prog laidL x := by
  intro x hx
  simp only [tvs, List.mem_cons, List.not_mem_nil, or_false] at hx
  rcases hx with rfl | rfl | rfl | rfl | rfl
  · exact ⟨by simp [laidL], by kernel_rfl, by kernel_rfl, by kernel_rfl, by kernel_rfl⟩
  · exact ⟨by simp [laidL], by kernel_rfl, by kernel_rfl, by kernel_rfl, by kernel_rfl⟩
  · exact ⟨by simp [laidL], by kernel_rfl, by kernel_rfl, by kernel_rfl, by kernel_rfl⟩
  · exact ⟨by simp [laidL], by kernel_rfl, by kernel_rfl, by kernel_rfl, by kernel_rfl⟩
  · exact ⟨by simp [laidL], by kernel_rfl, by kernel_rfl, by kernel_rfl, by kernel_rfl⟩
/-- The reckoning's frame. -/
noncomputable def CX : Ctx := { P := Tryz.prog, G := Gx.flat 17, tab := TabV.find tvs, fns := fnsOf Tryz.prog, idf := fun g => Nat.beq g 117, idok := idok, mnz := fun g => bif Nat.beq g 118 then some 5 else none, mnzok := mnzok }
theorem names_ok : Tryz.prog.funcs.toList.all (fun fn => !(fn.name == "runtime.NumGoroutine")) = true := by kernel_rfl
theorem CX.fok : CX.FOK := fun _ _ h => fnsOf_ok names_ok h
theorem CX.ok {B : World} (h : laidMetH Tryz.prog laidL B) : CX.OK (fun b => B.heap[b]?) := by
  rw [MakeChecks.laidMetH_plain _ _ _ (by kernel_rfl)] at h
  exact TabV.ok (C := CX) h rfl tvs_ok rfl
theorem no_sp (B : World) (F : Xs.PH) : SpOK B F CX (fun _ _ _ => none) := fun _ _ _ _ _ _ h => by cases h
end Go.Proofs.YtlamhjlijoampaaGreatDoor
