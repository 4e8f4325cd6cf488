/- The reckoning's frame for this seat. No condition. -/
import Derived.Test.YtdemnhdoadjhhaaGreatDoorRows
import Derived.ProofKit
import Derived.MakeChecks
import Derived.Lib.MakeNoZero
import Derived.Lib.Builder
import Derived.Laws.Externs
import Derived.LaidHandle
import Derived.Test.YtdemnhdoadjhhaaGreatDoorXsD
import Derived.Test.YtdemnhdoadjhhaaGreatDoorTab
set_option linter.unusedVariables false
set_option linter.unusedSimpArgs false
namespace Go.Proofs.YtdemnhdoadjhhaaGreatDoor
open Go.Sk Go.Xs
set_option maxRecDepth 1000000
theorem idok : ∀ g, Nat.beq g 166 = true → ∀ (v : Value) (w : World), (callFunc g #[v]).run Tryz.prog w = .ok (.value v) w := by
  intro g hg v w
  rw [Nat.beq_eq] at hg
  subst hg
  rw [run_callFunc_extern Tryz.func166 (by kernel_rfl) (by kernel_rfl) (by kernel_rfl) (e := Extern.AbiNoEscape.same) (by kernel_rfl)]
  rfl
theorem mnzok : ∀ g e, (bif Nat.beq g 167 then some 5 else none : Option TypeId) = some e → ∀ (n : Nat) (w : World), n ≤ 281474976710656 → ∃ cs : Array Value, (callFunc g #[.int .i64 (n : Int)]).run Tryz.prog w = .ok (.value (.slice (some ⟨w.heap.size, 0, none⟩) n cs.size)) (w.drew.drew.alloc (.cells cs e)) ∧ n ≤ cs.size ∧ (n ≤ maxLen → cs.size ≤ maxLen) := by
  intro g e hg n w hn
  cases hb : Nat.beq g 167 with
  | false => rw [hb] at hg; cases hg
  | true =>
    rw [hb] at hg
    rw [Nat.beq_eq] at hb
    subst hb
    cases hg
    obtain ⟨cs, hrun, hle, hmax⟩ := Lib.run_makeNoZero (P := Tryz.prog) w #[3] 162 5 Tryz.underlying162 n hn
    refine ⟨cs, ?_, hle, hmax⟩
    rw [run_callFunc_extern Tryz.func167 (by kernel_rfl) (by kernel_rfl) (by kernel_rfl) (e := Extern.BytealgMakeNoZero.makeNoZero #[3] #[162]) (by kernel_rfl), hrun]
    rfl
noncomputable def tvs : List TabV := [
  ⟨1, "unicode/utf8.first", 267, Rows.laid_unicode_utf8_first, flatD Rows.laid_unicode_utf8_first⟩,
  ⟨2, "unicode/utf8.acceptRanges", 270, Rows.laid_unicode_utf8_acceptRanges, flatD Rows.laid_unicode_utf8_acceptRanges⟩]
/-- What the rows list. -/
def laidL : List (String × DataW Unit) := [("unicode/utf8.acceptRanges", Rows.laid_unicode_utf8_acceptRanges), ("unicode/utf8.first", Rows.laid_unicode_utf8_first)]
theorem tvs_ok : ∀ x ∈ tvs, TabV.Fit Tryz.prog laidL x := by
  intro x hx
  simp only [tvs, List.mem_cons, List.not_mem_nil, or_false] at hx
  rcases hx with rfl | rfl
  · exact ⟨by simp [laidL], by kernel_rfl, by kernel_rfl, by kernel_rfl, by kernel_rfl⟩
  · exact ⟨by simp [laidL], by kernel_rfl, by kernel_rfl, by kernel_rfl, by kernel_rfl⟩
/-- The reckoning's frame: the program, its two tables, its functions. -/
noncomputable def CX : Ctx := { P := Tryz.prog, G := Gx.flat 3, tab := TabV.find tvs, fns := fnsOf Tryz.prog, idf := fun g => Nat.beq g 166, idok := idok, mnz := fun g => bif Nat.beq g 167 then some 5 else none, mnzok := mnzok }
theorem names_ok : Tryz.prog.funcs.toList.all (fun fn => !(fn.name == "runtime.NumGoroutine")) = true := by kernel_rfl
theorem CX.fok : CX.FOK := fun _ _ h => fnsOf_ok names_ok h
theorem CX.ok {B : World} (h : laidMetH Tryz.prog laidL B) : CX.OK (fun b => B.heap[b]?) := by
  rw [MakeChecks.laidMetH_plain _ _ _ (by kernel_rfl)] at h
  exact TabV.ok (C := CX) h rfl tvs_ok rfl
theorem no_sp (B : World) (F : Xs.PH) : SpOK B F CX (fun _ _ _ => none) := fun _ _ _ _ _ _ h => by cases h
end Go.Proofs.YtdemnhdoadjhhaaGreatDoor
