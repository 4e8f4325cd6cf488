/- The arguments of this seat's laws: lists of bytes, of integers; the kinds of the program's types. No condition. -/
import Derived.Test.YtbpelgbblpeojaaDoorK5
import Derived.Test.YtbpelgbblpeojaaDoorTab
import Derived.Test.YtbpelgbblpeojaaDoorSk15
set_option linter.unusedVariables false
set_option linter.unusedSimpArgs false
namespace Go.Proofs.YtbpelgbblpeojaaDoor
open Go.Sk Go.ChangeShapes Go.WideShapes Go.ChangeAt Go.RowKit
set_option maxRecDepth 100000
theorem rowed : laidOutB Tryd.prog = true := by kernel_rfl
theorem mapped : mapsRowed Tryd.prog = true := by kernel_rfl
theorem kids : Kids Tryd.prog (· < Tryd.prog.types.size) := kids_rows rowed mapped
theorem fullB : ((List.range Tryd.prog.types.size).all fun t => match Tryd.prog.underlying t with | some (.slice e) => decide (0 < Tryd.prog.cellsOf e) | _ => true) = true := by kernel_rfl
theorem full {t e : TypeId} (h : t < Tryd.prog.types.size) (he : Tryd.prog.underlying t = some (.slice e)) : 0 < Tryd.prog.cellsOf e := slices_full_of Tryd.prog fullB t e h he
section
variable {H : Type} {enc : TypeId × Value → H} {W : World}
theorem wf_u8 {a : Int} (h : (Lit.int .u8 a).wf = true) : isB a := by
  simp only [Lit.wf, Bool.and_eq_true, decide_eq_true_eq, IntKind.min, IntKind.max, IntKind.signed, IntKind.bits] at h
  obtain ⟨h0, h1⟩ := h
  simp at h0 h1
  exact ⟨h0, by omega⟩
theorem read_bytes {cs : List Value} {x : DataW H × List MemPlace} {fuel : Nat} (h : DataW.trod enc Tryd.prog W 0 (fun _ => true) true fuel 23 cs = some x) (hw : Light Tryd.prog 23 x.1) :
    ∃ (a : Option Addr) (n c : Nat) (l : List Int), cs = [.slice a n c] ∧ l.length = n ∧ n ≤ 140737488355328 ∧ Byt l ∧ ∀ Hs, Rd W Hs a n c 1 (ints .u8 l) := by
  have e5 : Tryd.prog.cellsOf 5 = 1 := by kernel_rfl
  have b5 : Tryd.prog.bytesOf 5 = 1 := by kernel_rfl
  obtain ⟨a, n, c, es, h1, h2, h3, hcb, h4, h5, h6⟩ := read_sliceW Tryd.underlying23 (by rw [e5]; omega) h hw
  rw [b5] at hcb
  have hl : ∃ l : List Int, es.flatten = ints .u8 l ∧ l.length = es.length ∧ Byt l := by
    clear h1 h4 h6
    induction es with
    | nil => exact ⟨[], rfl, rfl, fun _ h => absurd h (by simp)⟩
    | cons ce es ih =>
      obtain ⟨l, e1, e2, e3⟩ := ih (fun c hc => h5 c (by simp [hc]))
      obtain ⟨_, m, y, hy, _⟩ := h5 ce (by simp)
      obtain ⟨q, rfl, _, hq⟩ := DataW.trod_int Tryd.underlying5 hy
      refine ⟨q :: l, ?_, by simp [e2], fun y hy => ?_⟩
      · rw [List.flatten_cons, e1]; rfl
      · rcases List.mem_cons.1 hy with rfl | hy
        · exact wf_u8 hq
        · exact e3 y hy
  obtain ⟨l, e1, e2, e3⟩ := hl
  refine ⟨a, n, c, l, h1, by omega, by unfold reachBytes at hcb; omega, e3, fun Hs => ?_⟩
  have := h6 Hs
  rw [e5, e1] at this
  exact this
theorem read_ints {cs : List Value} {x : DataW H × List MemPlace} {fuel : Nat} (h : DataW.trod enc Tryd.prog W 0 (fun _ => true) true fuel 38 cs = some x) (hw : Light Tryd.prog 38 x.1) :
    ∃ (a : Option Addr) (n c : Nat) (l : List Int), cs = [.slice a n c] ∧ n = l.length ∧ n ≤ 140737488355328 ∧ (∀ j, j < l.length → -9223372036854775808 ≤ l.getD j 0 ∧ l.getD j 0 ≤ 9223372036854775807) ∧ ∀ Hs, Rd W Hs a n c 1 (ints .i64 l) := by
  have e5 : Tryd.prog.cellsOf 3 = 1 := by kernel_rfl
  have b5 : Tryd.prog.bytesOf 3 = 8 := by kernel_rfl
  obtain ⟨a, n, c, es, h1, h2, h3, hcb, h4, h5, h6⟩ := read_sliceW Tryd.underlying38 (by rw [e5]; omega) h hw
  rw [b5] at hcb
  have hl : ∃ l : List Int, es.flatten = ints .i64 l ∧ l.length = es.length ∧ ∀ y ∈ l, -9223372036854775808 ≤ y ∧ y ≤ 9223372036854775807 := by
    clear h1 h4 h6
    induction es with
    | nil => exact ⟨[], rfl, rfl, fun _ h => absurd h (by simp)⟩
    | cons ce es ih =>
      obtain ⟨l, e1, e2, e3⟩ := ih (fun c hc => h5 c (by simp [hc]))
      obtain ⟨_, m, y, hy, _⟩ := h5 ce (by simp)
      obtain ⟨q, rfl, _, hq⟩ := DataW.trod_int Tryd.underlying3 hy
      refine ⟨q :: l, ?_, by simp [e2], fun y hy => ?_⟩
      · rw [List.flatten_cons, e1]; rfl
      · rcases List.mem_cons.1 hy with rfl | hy
        · exact wf_i64 hq
        · exact e3 y hy
  obtain ⟨l, e1, e2, e3⟩ := hl
  refine ⟨a, n, c, l, h1, by omega, by unfold reachBytes at hcb; omega, fun j hj => ?_, fun Hs => ?_⟩
  · rw [List.getD_eq_getElem?_getD, List.getElem?_eq_getElem hj]
    exact e3 _ (List.getElem_mem hj)
  · have := h6 Hs
    rw [e5, e1] at this
    exact this
end
end Go.Proofs.YtbpelgbblpeojaaDoor
namespace Go.Sk
open Go.ChangeShapes Go.WideShapes Go.ChangeAt Go.RowKit
theorem Sp.law2 {P : Program} {W : World} {f : FuncId} {vs : List Value} {v : Value} (h : Sp W P f vs [] [] (fun u H' => u = v ∧ H' = [])) : Calls P f vs.toArray W fun e w' => e = .returned v ∧ Sat W [] w' :=
  (h W (Sat.refl W)).mono fun _ _ ⟨_, _, he, ⟨hv, hh⟩, hs⟩ => ⟨by rw [he, hv], by subst hh; exact hs⟩
end Go.Sk
