/- The arguments of this seat's laws: lists of texts. No condition. -/
import Derived.Test.YtbpelgbblpeojaaDoorK6
import Derived.Test.YtbpelgbblpeojaaDoorB6
set_option linter.unusedVariables false
set_option linter.unusedSimpArgs false
namespace Go.Proofs.YtbpelgbblpeojaaDoor
open Go.Sk Go.ChangeShapes Go.WideShapes Go.ChangeAt Go.RowKit
set_option maxRecDepth 100000
variable {H : Type} {enc : TypeId × Value → H} {W : World}
theorem read_texts {cs : List Value} {x : DataW H × List MemPlace} {fuel : Nat} (h : DataW.trod enc Tryd.prog W 0 (fun _ => true) true fuel 28 cs = some x) (hw : Light Tryd.prog 28 x.1) :
    ∃ (a : Option Addr) (n c : Nat) (l : List (List Int)), cs = [.slice a n c] ∧ n = l.length ∧ n ≤ 140737488355328 ∧ (∀ y ∈ l, Byt y) ∧ (∀ y ∈ l, y.length ≤ 140737488355328) ∧ ∀ Hs, Rd W Hs a n c 1 (strs l) := by
  have e5 : Tryd.prog.cellsOf 9 = 1 := by kernel_rfl
  have b5 : Tryd.prog.bytesOf 9 = 16 := by kernel_rfl
  obtain ⟨a, n, c, es, h1, h2, h3, hcb, h4, h5, h6⟩ := read_sliceW Tryd.underlying28 (by rw [e5]; omega) h hw
  rw [b5] at hcb
  have hl : ∃ l : List (List Int), es.flatten = strs l ∧ l.length = es.length ∧ (∀ y ∈ l, Byt y) ∧ ∀ y ∈ l, y.length ≤ 140737488355328 := by
    clear h1 h4 h6
    induction es with
    | nil => exact ⟨[], rfl, rfl, by simp, by simp⟩
    | cons ce es ih =>
      obtain ⟨l, e1, e2, e3, e4⟩ := ih (fun c hc => h5 c (by simp [hc]))
      obtain ⟨_, m, y, hy, hly⟩ := h5 ce (by simp)
      obtain ⟨s, rfl, rfl, _⟩ := DataW.trod_string Tryd.underlying9 hy
      obtain ⟨q, hq, rfl, hqn⟩ := str_of s
      have hlen : q.length ≤ 140737488355328 := by
        have := hly (str q).data.toList.length (by simp [DataW.weights])
        rw [hqn]
        unfold reachBytes at this
        simpa using Nat.le_trans this (by omega)
      refine ⟨q :: l, ?_, by simp [e2], fun y hy => ?_, fun y hy => ?_⟩
      · rw [List.flatten_cons, e1]; rfl
      · rcases List.mem_cons.1 hy with rfl | hy
        · exact hq
        · exact e3 y hy
      · rcases List.mem_cons.1 hy with rfl | hy
        · exact hlen
        · exact e4 y hy
  obtain ⟨l, e1, e2, e3, e4⟩ := hl
  refine ⟨a, n, c, l, h1, by omega, by unfold reachBytes at hcb; omega, e3, e4, fun Hs => ?_⟩
  have := h6 Hs
  rw [e5, e1] at this
  exact this
end Go.Proofs.YtbpelgbblpeojaaDoor
