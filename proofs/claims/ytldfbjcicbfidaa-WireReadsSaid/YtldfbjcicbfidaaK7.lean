/- The arguments of this seat's laws: lists of lists of bytes. No condition. -/
import Derived.Test.YtldfbjcicbfidaaK4
set_option linter.unusedVariables false
set_option linter.unusedSimpArgs false
namespace Go.Sk
/-- A list of bytes where it lies. -/
structure TI where
  a : Option Addr
  n : Nat
  c : Nat
  l : List Int
def TI.sl (t : TI) : Value := .slice t.a t.n t.c
end Go.Sk
namespace Go.Proofs.Ytldfbjcicbfidaa
open Go.Sk Go.ChangeShapes Go.WideShapes Go.ChangeAt Go.RowKit
set_option maxRecDepth 100000
variable {H : Type} {enc : TypeId × Value → H} {W : World}
theorem read_texts {cs : List Value} {x : DataW H × List MemPlace} {fuel : Nat} (h : DataW.trod enc Try.prog W 0 (fun _ => true) true fuel 49 cs = some x) (hw : Light Try.prog 49 x.1) :
    ∃ (a : Option Addr) (n c : Nat) (l : List TI), cs = [.slice a n c] ∧ l.length = n ∧ n ≤ 140737488355328 ∧ (∀ t ∈ l, Bytes t.l ∧ t.n ≤ 140737488355328) ∧ (∀ t ∈ l, ∀ Hs, Rd W Hs t.a t.n t.c 1 (ints .u8 t.l)) ∧ ∀ Hs, Rd W Hs a n c 1 (l.map TI.sl) := by
  have e28 : Try.prog.cellsOf 28 = 1 := by kernel_rfl
  have b28 : Try.prog.bytesOf 28 = 24 := by kernel_rfl
  obtain ⟨a, n, c, es, h1, h2, h3, hcb, h4, h5, h6⟩ := read_sliceW Try.underlying49 (by rw [e28]; omega) h hw
  rw [b28] at hcb
  have hl : ∃ l : List TI, es.flatten = l.map TI.sl ∧ l.length = es.length ∧ (∀ t ∈ l, Bytes t.l ∧ t.n ≤ 140737488355328) ∧ (∀ t ∈ l, ∀ Hs, Rd W Hs t.a t.n t.c 1 (ints .u8 t.l)) := by
    clear h1 h4 h6
    induction es with
    | nil => exact ⟨[], rfl, rfl, fun _ h => absurd h (by simp), fun _ h => absurd h (by simp)⟩
    | cons ce es ih =>
      obtain ⟨l, e1, e2, e3, e4⟩ := ih (fun c hc => h5 c (by simp [hc]))
      obtain ⟨_, m, y, hy, hly⟩ := h5 ce (by simp)
      obtain ⟨a1, n1, c1, l1, rfl, b1, b2, b3, b4⟩ := read_bytes hy hly
      refine ⟨⟨a1, n1, c1, l1⟩ :: l, ?_, by simp [e2], fun y hy => ?_, fun y hy => ?_⟩
      · rw [List.flatten_cons, e1]; rfl
      · rcases List.mem_cons.1 hy with rfl | hy
        · exact ⟨b3, b2⟩
        · exact e3 y hy
      · rcases List.mem_cons.1 hy with rfl | hy
        · exact b4
        · exact e4 y hy
  obtain ⟨l, e1, e2, e3, e4⟩ := hl
  refine ⟨a, n, c, l, h1, by omega, by unfold reachBytes at hcb; omega, e3, e4, fun Hs => ?_⟩
  have := h6 Hs
  rw [e28, e1] at this
  exact this
end Go.Proofs.Ytldfbjcicbfidaa
