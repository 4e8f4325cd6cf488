/- The arguments of this seat's laws: lists of numbers. No condition. -/
import Derived.Test.YtldfbjcicbfidaaK4
set_option linter.unusedVariables false
set_option linter.unusedSimpArgs false
namespace Go.Proofs.Ytldfbjcicbfidaa
open Go.Sk Go.ChangeShapes Go.WideShapes Go.ChangeAt Go.RowKit
set_option maxRecDepth 100000
section
variable {H : Type} {enc : TypeId × Value → H} {W : World}
theorem read_intl {cs : List Value} {x : DataW H × List MemPlace} {fuel : Nat} (h : DataW.trod enc Try.prog W 0 (fun _ => true) true fuel 45 cs = some x) (hw : Light Try.prog 45 x.1) :
    ∃ (a : Option Addr) (n c : Nat) (l : List Int), cs = [.slice a n c] ∧ n = l.length ∧ n ≤ 140737488355328 ∧ (∀ j, j < l.length → -9223372036854775808 ≤ l.getD j 0 ∧ l.getD j 0 ≤ 9223372036854775807) ∧ ∀ Hs, Rd W Hs a n c 1 (ints .i64 l) := by
  have e5 : Try.prog.cellsOf 3 = 1 := by kernel_rfl
  have b5 : Try.prog.bytesOf 3 = 8 := by kernel_rfl
  obtain ⟨a, n, c, es, h1, h2, h3, hcb, h4, h5, h6⟩ := read_sliceW Try.underlying45 (by rw [e5]; omega) h hw
  rw [b5] at hcb
  have hl : ∃ l : List Int, es.flatten = ints .i64 l ∧ l.length = es.length ∧ ∀ y ∈ l, -9223372036854775808 ≤ y ∧ y ≤ 9223372036854775807 := by
    clear h1 h4 h6
    induction es with
    | nil => exact ⟨[], rfl, rfl, fun _ h => absurd h (by simp)⟩
    | cons ce es ih =>
      obtain ⟨l, e1, e2, e3⟩ := ih (fun c hc => h5 c (by simp [hc]))
      obtain ⟨_, m, y, hy, _⟩ := h5 ce (by simp)
      obtain ⟨q, rfl, _, hq⟩ := DataW.trod_int Try.underlying3 hy
      refine ⟨q :: l, ?_, by simp [e2], fun y hy => ?_⟩
      · rw [List.flatten_cons, e1]; rfl
      · rcases List.mem_cons.1 hy with rfl | hy
        · exact wf_i64 hq
        · exact e3 y hy
  obtain ⟨l, e1, e2, e3⟩ := hl
  refine ⟨a, n, c, l, h1, by omega, by unfold reachBytes at hcb; omega, fun j hj => ?_, fun Hs => ?_⟩
  · rw [List.getD_eq_getElem?_getD, List.getElem?_eq_getElem hj]
    exact e3 _ (List.getElem_mem hj)
  · have := h6 Hs
    rw [e5, e1] at this
    exact this
end
end Go.Proofs.Ytldfbjcicbfidaa
